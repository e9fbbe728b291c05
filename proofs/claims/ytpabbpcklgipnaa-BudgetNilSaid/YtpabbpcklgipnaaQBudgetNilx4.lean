/- The walks of functions that the law BudgetNil reaches. Written by this session's turn of the kit's printer, not by the kit's own. -/
import Derived.Test.YtpabbpcklgipnaaQBudgetNilx0
import Derived.Test.YtpabbpcklgipnaaQBudgetNilx1
import Derived.Test.YtpabbpcklgipnaaQBudgetNilx2
import Derived.Test.YtpabbpcklgipnaaQBudgetNilx3
namespace Go.Proofs.Ytpabbpcklgipnaa.PBudgetNil
open Go.RowKit Go.Proofs.YtpabbpcklgipnaaW.PrintWords Go.Proofs.YtpabbpcklgipnaaW.PrintLast Go.Proofs.YtpabbpcklgipnaaW.PrintMore
attribute [local go_sem] max2_int min2_int max_two min_two max_three min_three max_four min_four   -- for this text's walks alone
set_option linter.unusedVariables false
set_option linter.unusedSimpArgs false

attribute [local go_sem high] eqA80 eqA82
/-! ### budget_Server_Reset: function 20 -/
def budget_Server_Reset.f (s0_0 : Int) (s0_1 : Int) (s0_2 : Int) (s0_3 : Int) (s0_4 : Int) (a1 : Int) : Option (Int × Int × Int × Int × Int) := if a1 ≥ 0 then (if a1 ≤ 1099511627776 then (some (s0_0, s0_1, (-1), 0, a1)) else (some (s0_0, s0_1, s0_2, s0_3, s0_4))) else (some (s0_0, s0_1, s0_2, s0_3, s0_4))
set_option maxHeartbeats 8000000 in
set_option maxRecDepth 100000 in
theorem budget_Server_Reset.calls (g : Nat) (s0_0 : Int) (s0_1 : Int) (s0_2 : Int) (s0_3 : Int) (s0_4 : Int) (a1 : Int) (r1 : Int) (r2 : Int) (r3 : Int) (r4 : Int) (r5 : Int) (w0 w : World) (hI : IsS84 w0 w g s0_0 s0_1 s0_2 s0_3 s0_4) (hB : Below w0.heap.size w0 w) (h : budget_Server_Reset.f s0_0 s0_1 s0_2 s0_3 s0_4 a1 = some (r1, r2, r3, r4, r5)) :
    Calls Try.prog 20 #[.pointer (some ⟨g, 0, none⟩), .int .i64 a1] w fun e w' => e = .returned (.tuple #[]) ∧ IsS84 w0 w' g r1 r2 r3 r4 r5 ∧ Below w0.heap.size w0 w' ∧ KeepBut w w' g none := by
  have hu25 := Try.underlying25
  have hu82 := Try.underlying82
  have HI0 := Aside0.mk hI
  have HK := Aside0.mk (KeepBut.refl w g none)
  have HL := Aside0.mk hB.size
  clear hI
  have HW0 := Aside0.mk hB.size
  have HB := Aside0.mk hB
  clear hB
  have H : (if a1 ≥ 0 then (if a1 ≤ 1099511627776 then (some (s0_0, s0_1, (-1), 0, a1)) else (some (s0_0, s0_1, s0_2, s0_3, s0_4))) else (some (s0_0, s0_1, s0_2, s0_3, s0_4))) = some (r1, r2, r3, r4, r5) := h
  clear h
  by_cases c3 : a1 ≥ 0
  · rw [if_pos c3] at H
    have c3b0 : decide (0 ≤ a1) = true := decide_eq_true c3
    clear c3
    by_cases c4 : a1 ≤ 1099511627776
    · rw [if_pos c4] at H
      have c4b0 : decide (a1 ≤ 1099511627776) = true := decide_eq_true c4
      clear c4
      simp only [Option.some.injEq, Prod.mk.injEq] at H
      obtain ⟨rfl, rfl, rfl, rfl, rfl⟩ := H
      obtain ⟨HGz5, hgz5⟩ := HI0.out
      have hcz5_0 := cellS84_0 HGz5
      have hcz5_1 := cellS84_1 HGz5
      have hcz5_2 := cellS84_2 HGz5
      have hcz5_3 := cellS84_3 HGz5
      have hcz5_4 := cellS84_4 HGz5
      have hfz5_0 := blk_frozen HGz5 0
      have hfz5_1 := blk_frozen HGz5 1
      have hfz5_2 := blk_frozen HGz5 2
      have hfz5_3 := blk_frozen HGz5 3
      have hfz5_4 := blk_frozen HGz5 4
      clear HGz5 hgz5
      go_enter Try.func20, Try.ntmps20
      go_wp2
      first | go_end0 | ((try simp only [Exit.inBlock, Exit.then]); refine bodyPost_ret (results_none rfl _ _ _) rfl ?_)
      exact ⟨by first | rfl | (simp [errW_none, errW_some] <;> rfl) | (simp [*, errW_none, errW_some] <;> rfl), by repeat (first | (with_reducible first | exact HI0.out | apply IsS84.alloc | apply IsS84.drewN | apply IsS84.drew | apply IsS84.set_0 | apply IsS84.set_1 | apply IsS84.set_2 | apply IsS84.set_3 | apply IsS84.set_4) | exact HI0.out), by repeat (first | (with_reducible first | exact HB.out | apply below_alloc | apply pw_below_drewN | apply below_drew1 | refine below_set ?_ (IsS84.ge HI0.out)) | exact HB.out), by repeat (first | (with_reducible first | exact HK.out | apply KeepBut.set_ | apply keep_drewN | apply keep_drew | apply keep_alloc) | exact HK.out)⟩
    · rw [if_neg c4] at H
      have c4b0 : decide (a1 ≤ 1099511627776) = false := decide_eq_false c4
      clear c4
      simp only [Option.some.injEq, Prod.mk.injEq] at H
      obtain ⟨rfl, rfl, rfl, rfl, rfl⟩ := H
      go_enter Try.func20, Try.ntmps20
      go_wp2
      first | go_end0 | ((try simp only [Exit.inBlock, Exit.then]); refine bodyPost_ret (results_none rfl _ _ _) rfl ?_)
      exact ⟨by first | rfl | (simp [errW_none, errW_some] <;> rfl) | (simp [*, errW_none, errW_some] <;> rfl), by repeat (first | (with_reducible first | exact HI0.out | apply IsS84.alloc | apply IsS84.drewN | apply IsS84.drew | apply IsS84.set_0 | apply IsS84.set_1 | apply IsS84.set_2 | apply IsS84.set_3 | apply IsS84.set_4) | exact HI0.out), by repeat (first | (with_reducible first | exact HB.out | apply below_alloc | apply pw_below_drewN | apply below_drew1 | refine below_set ?_ (IsS84.ge HI0.out)) | exact HB.out), by repeat (first | (with_reducible first | exact HK.out | apply KeepBut.set_ | apply keep_drewN | apply keep_drew | apply keep_alloc) | exact HK.out)⟩
  · rw [if_neg c3] at H
    have c3b0 : decide (0 ≤ a1) = false := decide_eq_false c3
    clear c3
    simp only [Option.some.injEq, Prod.mk.injEq] at H
    obtain ⟨rfl, rfl, rfl, rfl, rfl⟩ := H
    go_enter Try.func20, Try.ntmps20
    go_wp2
    first | go_end0 | ((try simp only [Exit.inBlock, Exit.then]); refine bodyPost_ret (results_none rfl _ _ _) rfl ?_)
    exact ⟨by first | rfl | (simp [errW_none, errW_some] <;> rfl) | (simp [*, errW_none, errW_some] <;> rfl), by repeat (first | (with_reducible first | exact HI0.out | apply IsS84.alloc | apply IsS84.drewN | apply IsS84.drew | apply IsS84.set_0 | apply IsS84.set_1 | apply IsS84.set_2 | apply IsS84.set_3 | apply IsS84.set_4) | exact HI0.out), by repeat (first | (with_reducible first | exact HB.out | apply below_alloc | apply pw_below_drewN | apply below_drew1 | refine below_set ?_ (IsS84.ge HI0.out)) | exact HB.out), by repeat (first | (with_reducible first | exact HK.out | apply KeepBut.set_ | apply keep_drewN | apply keep_drew | apply keep_alloc) | exact HK.out)⟩

/-! ### budget_Server_Reset_nil0: function 100020 -/
def budget_Server_Reset_nil0.f  (a1 : Int) : Option (Unit) := some ()
set_option maxHeartbeats 8000000 in
set_option maxRecDepth 100000 in
theorem budget_Server_Reset_nil0.calls  (a1 : Int) (w : World) (h : budget_Server_Reset_nil0.f a1 = some ()) :
    Calls Try.prog 20 #[.pointer none, .int .i64 a1] w fun e w' => e = .returned (.tuple #[]) ∧ Below w.heap.size w w' := by
  have hu25 := Try.underlying25
  have hnl25 := fun (p : Option Addr) (W : World) => eql_nil_left W 25 p Try.underlying25
  have hnr25 := fun (p : Option Addr) (W : World) => neq_nil_left W 25 p Try.underlying25
  have hu82 := Try.underlying82
  have HB := Aside0.mk (Below.refl w.heap.size w)
  have H : (some ()) = some () := h
  clear h
  go_enter Try.func20, Try.ntmps20
  go_wp2
  first | go_end0 | ((try simp only [Exit.inBlock, Exit.then]); refine bodyPost_ret (results_none rfl _ _ _) rfl ?_)
  exact ⟨by first | rfl | (simp [errW_none, errW_some] <;> rfl) | (simp [*, errW_none, errW_some] <;> rfl), by repeat (first | (with_reducible first | exact HB.out | apply below_alloc | apply pw_below_drewN | apply below_drew1) | exact HB.out)⟩

/-! ### budget_Server_Same: function 21 -/
def budget_Server_Same.f (s0_0 : Int) (s0_1 : Int) (s0_2 : Int) (s0_3 : Int) (s0_4 : Int) (s1_0 : Int) (s1_1 : Int) (s1_2 : Int) (s1_3 : Int) (s1_4 : Int) : Option (Bool) := if (s0_0 == s1_0 && (s0_1 == s1_1)) = true then (if (s0_2 == s1_2 && (s0_3 == s1_3)) = true then (some (s0_4 == s1_4)) else (some false)) else (some false)
set_option maxHeartbeats 8000000 in
set_option maxRecDepth 100000 in
theorem budget_Server_Same.calls (g : Nat) (s0_0 : Int) (s0_1 : Int) (s0_2 : Int) (s0_3 : Int) (s0_4 : Int) (h1_ : Nat) (s1_0 : Int) (s1_1 : Int) (s1_2 : Int) (s1_3 : Int) (s1_4 : Int) (r : Bool) (w0 w : World) (hI0 : IsS84 w0 w g s0_0 s0_1 s0_2 s0_3 s0_4) (hI1 : IsS84 w0 w h1_ s1_0 s1_1 s1_2 s1_3 s1_4) (hB : Below w0.heap.size w0 w) (h : budget_Server_Same.f s0_0 s0_1 s0_2 s0_3 s0_4 s1_0 s1_1 s1_2 s1_3 s1_4 = some r) :
    Calls Try.prog 21 #[.pointer (some ⟨g, 0, none⟩), .pointer (some ⟨h1_, 0, none⟩)] w fun e w' => e = .returned (.bool r) ∧ Drawn0 w w' := by
  have hu25 := Try.underlying25
  have hu80 := Try.underlying80
  have hu82 := Try.underlying82
  have HI0 := Aside0.mk hI0
  clear hI0
  have HI1 := Aside0.mk hI1
  clear hI1
  have HW0 := Aside0.mk hB.size
  have HB := Aside0.mk hB
  clear hB
  have H : (if (s0_0 == s1_0 && (s0_1 == s1_1)) = true then (if (s0_2 == s1_2 && (s0_3 == s1_3)) = true then (some (s0_4 == s1_4)) else (some false)) else (some false)) = some r := h
  clear h
  by_cases c3 : (s0_0 == s1_0 && (s0_1 == s1_1)) = true
  · rw [if_pos c3] at H
    have c3b0 : (s0_0 == s1_0 && (s0_1 == s1_1)) = true := c3
    (try (have c3b1 : decide (s0_0 = s1_0 && (s0_1 == s1_1)) = true := by simpa using c3))
    (try (have c3b2 : (s0_0 == s1_0 && (s0_1 == s1_1)) = true := by simpa using c3))
    clear c3
    by_cases c4 : (s0_2 == s1_2 && (s0_3 == s1_3)) = true
    · rw [if_pos c4] at H
      have c4b0 : (s0_2 == s1_2 && (s0_3 == s1_3)) = true := c4
      (try (have c4b1 : decide (s0_2 = s1_2 && (s0_3 == s1_3)) = true := by simpa using c4))
      (try (have c4b2 : (s0_2 == s1_2 && (s0_3 == s1_3)) = true := by simpa using c4))
      clear c4
      obtain rfl := Option.some.inj H
      obtain ⟨HGz5, hgz5⟩ := HI0.out
      have hcz5_0 := cellS84_0 HGz5
      have hcz5_1 := cellS84_1 HGz5
      have hcz5_2 := cellS84_2 HGz5
      have hcz5_3 := cellS84_3 HGz5
      have hcz5_4 := cellS84_4 HGz5
      have hfz5_0 := blk_frozen HGz5 0
      have hfz5_1 := blk_frozen HGz5 1
      have hfz5_2 := blk_frozen HGz5 2
      have hfz5_3 := blk_frozen HGz5 3
      have hfz5_4 := blk_frozen HGz5 4
      clear HGz5 hgz5
      obtain ⟨HGz6, hgz6⟩ := HI1.out
      have hcz6_0 := cellS84_0 HGz6
      have hcz6_1 := cellS84_1 HGz6
      have hcz6_2 := cellS84_2 HGz6
      have hcz6_3 := cellS84_3 HGz6
      have hcz6_4 := cellS84_4 HGz6
      have hfz6_0 := blk_frozen HGz6 0
      have hfz6_1 := blk_frozen HGz6 1
      have hfz6_2 := blk_frozen HGz6 2
      have hfz6_3 := blk_frozen HGz6 3
      have hfz6_4 := blk_frozen HGz6 4
      clear HGz6 hgz6
      go_enter Try.func21, Try.ntmps21
      go_wp2
      repeat (go_quiet (fail); try go_wp2)
      go_ret
      exact ⟨by first | rfl | (simp; done) | (simp [*]; done), by repeat (first | exact Drawn0.refl _ | apply Drawn0.step)⟩
    · rw [if_neg c4] at H
      have c4b0 : (s0_2 == s1_2 && (s0_3 == s1_3)) = false := by simpa using c4
      (try (have c4b1 : decide (s0_2 = s1_2 && (s0_3 == s1_3)) = false := by simpa using c4))
      (try (have c4b2 : (s0_2 == s1_2 && (s0_3 == s1_3)) = false := by simpa using c4))
      (try (have c4b3 : ¬ (s0_2 = s1_2 && (s0_3 == s1_3)) := by simpa using c4))
      clear c4
      obtain rfl := Option.some.inj H
      obtain ⟨HGz7, hgz7⟩ := HI0.out
      have hcz7_0 := cellS84_0 HGz7
      have hcz7_1 := cellS84_1 HGz7
      have hcz7_2 := cellS84_2 HGz7
      have hcz7_3 := cellS84_3 HGz7
      have hcz7_4 := cellS84_4 HGz7
      have hfz7_0 := blk_frozen HGz7 0
      have hfz7_1 := blk_frozen HGz7 1
      have hfz7_2 := blk_frozen HGz7 2
      have hfz7_3 := blk_frozen HGz7 3
      have hfz7_4 := blk_frozen HGz7 4
      clear HGz7 hgz7
      obtain ⟨HGz8, hgz8⟩ := HI1.out
      have hcz8_0 := cellS84_0 HGz8
      have hcz8_1 := cellS84_1 HGz8
      have hcz8_2 := cellS84_2 HGz8
      have hcz8_3 := cellS84_3 HGz8
      have hcz8_4 := cellS84_4 HGz8
      have hfz8_0 := blk_frozen HGz8 0
      have hfz8_1 := blk_frozen HGz8 1
      have hfz8_2 := blk_frozen HGz8 2
      have hfz8_3 := blk_frozen HGz8 3
      have hfz8_4 := blk_frozen HGz8 4
      clear HGz8 hgz8
      go_enter Try.func21, Try.ntmps21
      go_wp2
      repeat (go_quiet (fail); try go_wp2)
      go_ret
      exact ⟨by first | rfl | (simp; done) | (simp [*]; done), by repeat (first | exact Drawn0.refl _ | apply Drawn0.step)⟩
  · rw [if_neg c3] at H
    have c3b0 : (s0_0 == s1_0 && (s0_1 == s1_1)) = false := by simpa using c3
    (try (have c3b1 : decide (s0_0 = s1_0 && (s0_1 == s1_1)) = false := by simpa using c3))
    (try (have c3b2 : (s0_0 == s1_0 && (s0_1 == s1_1)) = false := by simpa using c3))
    (try (have c3b3 : ¬ (s0_0 = s1_0 && (s0_1 == s1_1)) := by simpa using c3))
    clear c3
    obtain rfl := Option.some.inj H
    obtain ⟨HGz9, hgz9⟩ := HI0.out
    have hcz9_0 := cellS84_0 HGz9
    have hcz9_1 := cellS84_1 HGz9
    have hcz9_2 := cellS84_2 HGz9
    have hcz9_3 := cellS84_3 HGz9
    have hcz9_4 := cellS84_4 HGz9
    have hfz9_0 := blk_frozen HGz9 0
    have hfz9_1 := blk_frozen HGz9 1
    have hfz9_2 := blk_frozen HGz9 2
    have hfz9_3 := blk_frozen HGz9 3
    have hfz9_4 := blk_frozen HGz9 4
    clear HGz9 hgz9
    obtain ⟨HGz10, hgz10⟩ := HI1.out
    have hcz10_0 := cellS84_0 HGz10
    have hcz10_1 := cellS84_1 HGz10
    have hcz10_2 := cellS84_2 HGz10
    have hcz10_3 := cellS84_3 HGz10
    have hcz10_4 := cellS84_4 HGz10
    have hfz10_0 := blk_frozen HGz10 0
    have hfz10_1 := blk_frozen HGz10 1
    have hfz10_2 := blk_frozen HGz10 2
    have hfz10_3 := blk_frozen HGz10 3
    have hfz10_4 := blk_frozen HGz10 4
    clear HGz10 hgz10
    go_enter Try.func21, Try.ntmps21
    go_wp2
    repeat (go_quiet (fail); try go_wp2)
    go_ret
    exact ⟨by first | rfl | (simp; done) | (simp [*]; done), by repeat (first | exact Drawn0.refl _ | apply Drawn0.step)⟩

/-! ### budget_Server_Same_nil0: function 100021 -/
def budget_Server_Same_nil0.f  (s1_0 : Int) (s1_1 : Int) (s1_2 : Int) (s1_3 : Int) (s1_4 : Int) : Option (Bool × Int × Int × Int × Int × Int) := some (false, s1_0, s1_1, s1_2, s1_3, s1_4)
set_option maxHeartbeats 8000000 in
set_option maxRecDepth 100000 in
theorem budget_Server_Same_nil0.calls  (g : Nat) (s1_0 : Int) (s1_1 : Int) (s1_2 : Int) (s1_3 : Int) (s1_4 : Int) (r1 : Bool) (r2 : Int) (r3 : Int) (r4 : Int) (r5 : Int) (r6 : Int) (w0 w : World) (hI : IsS84 w0 w g s1_0 s1_1 s1_2 s1_3 s1_4) (hB : Below w0.heap.size w0 w) (h : budget_Server_Same_nil0.f s1_0 s1_1 s1_2 s1_3 s1_4 = some (r1, r2, r3, r4, r5, r6)) :
    Calls Try.prog 21 #[.pointer none, .pointer (some ⟨g, 0, none⟩)] w fun e w' => e = .returned (.bool r1) ∧ IsS84 w0 w' g r2 r3 r4 r5 r6 ∧ Below w0.heap.size w0 w' ∧ KeepBut w w' g none := by
  have hu25 := Try.underlying25
  have hnl25 := fun (p : Option Addr) (W : World) => eql_nil_left W 25 p Try.underlying25
  have hnr25 := fun (p : Option Addr) (W : World) => neq_nil_left W 25 p Try.underlying25
  have hu80 := Try.underlying80
  have hu82 := Try.underlying82
  have HI1 := Aside0.mk hI
  have HK := Aside0.mk (KeepBut.refl w g none)
  have HL := Aside0.mk hB.size
  clear hI
  have HW0 := Aside0.mk hB.size
  have HB := Aside0.mk hB
  clear hB
  have H : (some (false, s1_0, s1_1, s1_2, s1_3, s1_4)) = some (r1, r2, r3, r4, r5, r6) := h
  clear h
  simp only [Option.some.injEq, Prod.mk.injEq] at H
  obtain ⟨rfl, rfl, rfl, rfl, rfl, rfl⟩ := H
  go_enter Try.func21, Try.ntmps21
  go_wp2
  repeat (go_quiet (fail); try go_wp2)
  go_ret
  exact ⟨by first | rfl | (simp [errW_none, errW_some] <;> rfl) | (simp [*, errW_none, errW_some] <;> rfl), by repeat (first | (with_reducible first | exact HI1.out | apply IsS84.alloc | apply IsS84.drewN | apply IsS84.drew | apply IsS84.set_0 | apply IsS84.set_1 | apply IsS84.set_2 | apply IsS84.set_3 | apply IsS84.set_4) | exact HI1.out), by repeat (first | (with_reducible first | exact HB.out | apply below_alloc | apply pw_below_drewN | apply below_drew1 | refine below_set ?_ (IsS84.ge HI1.out)) | exact HB.out), by repeat (first | (with_reducible first | exact HK.out | apply KeepBut.set_ | apply keep_drewN | apply keep_drew | apply keep_alloc) | exact HK.out)⟩

/-! ### budget_Server_Same_nil1: function 200021 -/
def budget_Server_Same_nil1.f (s0_0 : Int) (s0_1 : Int) (s0_2 : Int) (s0_3 : Int) (s0_4 : Int)  : Option (Bool × Int × Int × Int × Int × Int) := some (false, s0_0, s0_1, s0_2, s0_3, s0_4)
set_option maxHeartbeats 8000000 in
set_option maxRecDepth 100000 in
theorem budget_Server_Same_nil1.calls (g : Nat) (s0_0 : Int) (s0_1 : Int) (s0_2 : Int) (s0_3 : Int) (s0_4 : Int)  (r1 : Bool) (r2 : Int) (r3 : Int) (r4 : Int) (r5 : Int) (r6 : Int) (w0 w : World) (hI : IsS84 w0 w g s0_0 s0_1 s0_2 s0_3 s0_4) (hB : Below w0.heap.size w0 w) (h : budget_Server_Same_nil1.f s0_0 s0_1 s0_2 s0_3 s0_4 = some (r1, r2, r3, r4, r5, r6)) :
    Calls Try.prog 21 #[.pointer (some ⟨g, 0, none⟩), .pointer none] w fun e w' => e = .returned (.bool r1) ∧ IsS84 w0 w' g r2 r3 r4 r5 r6 ∧ Below w0.heap.size w0 w' ∧ KeepBut w w' g none := by
  have hu25 := Try.underlying25
  have hnl25 := fun (p : Option Addr) (W : World) => eql_nil_left W 25 p Try.underlying25
  have hnr25 := fun (p : Option Addr) (W : World) => neq_nil_left W 25 p Try.underlying25
  have hu80 := Try.underlying80
  have hu82 := Try.underlying82
  have HI0 := Aside0.mk hI
  have HK := Aside0.mk (KeepBut.refl w g none)
  have HL := Aside0.mk hB.size
  clear hI
  have HW0 := Aside0.mk hB.size
  have HB := Aside0.mk hB
  clear hB
  have H : (some (false, s0_0, s0_1, s0_2, s0_3, s0_4)) = some (r1, r2, r3, r4, r5, r6) := h
  clear h
  simp only [Option.some.injEq, Prod.mk.injEq] at H
  obtain ⟨rfl, rfl, rfl, rfl, rfl, rfl⟩ := H
  go_enter Try.func21, Try.ntmps21
  go_wp2
  repeat (go_quiet (fail); try go_wp2)
  go_ret
  exact ⟨by first | rfl | (simp [errW_none, errW_some] <;> rfl) | (simp [*, errW_none, errW_some] <;> rfl), by repeat (first | (with_reducible first | exact HI0.out | apply IsS84.alloc | apply IsS84.drewN | apply IsS84.drew | apply IsS84.set_0 | apply IsS84.set_1 | apply IsS84.set_2 | apply IsS84.set_3 | apply IsS84.set_4) | exact HI0.out), by repeat (first | (with_reducible first | exact HB.out | apply below_alloc | apply pw_below_drewN | apply below_drew1 | refine below_set ?_ (IsS84.ge HI0.out)) | exact HB.out), by repeat (first | (with_reducible first | exact HK.out | apply KeepBut.set_ | apply keep_drewN | apply keep_drew | apply keep_alloc) | exact HK.out)⟩

/-! ### budget_Server_Same_nil01: function 300021 -/
def budget_Server_Same_nil01.f   : Option (Bool) := some true
set_option maxHeartbeats 8000000 in
set_option maxRecDepth 100000 in
theorem budget_Server_Same_nil01.calls   (r : Bool) (w : World) (h : budget_Server_Same_nil01.f  = some r) :
    Calls Try.prog 21 #[.pointer none, .pointer none] w fun e w' => e = .returned (.bool r) ∧ Drawn0 w w' := by
  have hu25 := Try.underlying25
  have hnl25 := fun (p : Option Addr) (W : World) => eql_nil_left W 25 p Try.underlying25
  have hnr25 := fun (p : Option Addr) (W : World) => neq_nil_left W 25 p Try.underlying25
  have hu80 := Try.underlying80
  have hu82 := Try.underlying82
  have H : (some true) = some r := h
  clear h
  obtain rfl := Option.some.inj H
  go_enter Try.func21, Try.ntmps21
  go_wp2
  repeat (go_quiet (fail); try go_wp2)
  go_ret
  exact ⟨by first | rfl | (simp; done) | (simp [*]; done), by repeat (first | exact Drawn0.refl _ | apply Drawn0.step)⟩

/-! ### budget_Server_Clone: function 27 -/
def budget_Server_Clone.f (s0_0 : Int) (s0_1 : Int) (s0_2 : Int) (s0_3 : Int) (s0_4 : Int) : Option (Int × Int × Int × Int × Int) := some (s0_0, s0_1, s0_2, s0_3, s0_4)
set_option maxHeartbeats 8000000 in
set_option maxRecDepth 100000 in
theorem budget_Server_Clone.calls (g : Nat) (s0_0 : Int) (s0_1 : Int) (s0_2 : Int) (s0_3 : Int) (s0_4 : Int) (r1 : Int) (r2 : Int) (r3 : Int) (r4 : Int) (r5 : Int) (w0 w : World) (hI0 : IsS84 w0 w g s0_0 s0_1 s0_2 s0_3 s0_4) (hB : Below w0.heap.size w0 w) (h : budget_Server_Clone.f s0_0 s0_1 s0_2 s0_3 s0_4 = some (r1, r2, r3, r4, r5)) :
    Calls Try.prog 27 #[.pointer (some ⟨g, 0, none⟩)] w fun e w' => ∃ g_ : Nat, e = .returned (.pointer (some ⟨g_, 0, none⟩)) ∧ IsS84 w0 w' g_ r1 r2 r3 r4 r5 ∧ Below w0.heap.size w0 w' ∧ Below w.heap.size w w' ∧ w.heap.size ≤ g_ := by
  have hu25 := Try.underlying25
  have hu84 := Try.underlying84
  have HI0 := Aside0.mk hI0
  clear hI0
  have HBW := Aside0.mk (Below.refl w.heap.size w)
  have HW0 := Aside0.mk hB.size
  have HB := Aside0.mk hB
  clear hB
  have H : (some (s0_0, s0_1, s0_2, s0_3, s0_4)) = some (r1, r2, r3, r4, r5) := h
  clear h
  simp only [Option.some.injEq, Prod.mk.injEq] at H
  obtain ⟨rfl, rfl, rfl, rfl, rfl⟩ := H
  obtain ⟨HGz2, hgz2⟩ := HI0.out
  have hcz2_0 := cellS84_0 HGz2
  have hcz2_1 := cellS84_1 HGz2
  have hcz2_2 := cellS84_2 HGz2
  have hcz2_3 := cellS84_3 HGz2
  have hcz2_4 := cellS84_4 HGz2
  have hfz2_0 := blk_frozen HGz2 0
  have hfz2_1 := blk_frozen HGz2 1
  have hfz2_2 := blk_frozen HGz2 2
  have hfz2_3 := blk_frozen HGz2 3
  have hfz2_4 := blk_frozen HGz2 4
  clear HGz2 hgz2
  go_enter Try.func27, Try.ntmps27
  go_wp2_with (first | ((with_reducible refine gate_dst (N := 3) rfl ?_); refine box_event ?hg (N := 3) ?hd (cs := #[.int .i64 0, .int .i64 0, .int .i64 0, .int .i64 0, .int .i64 0]) (t := 84) ?hr ?_; (case hd => rfl); (case hg => rfl); (case hr => first | (go_simp; done) | (go_simp; rfl)); intro gb188 hg w3 hbox hb; have n0_ := Aside0.mk (IsS84.below (by repeat (first | (with_reducible first | exact HI0.out | apply IsS84.alloc | apply IsS84.drewN | apply IsS84.drew | apply IsS84.set_0 | apply IsS84.set_1 | apply IsS84.set_2 | apply IsS84.set_3 | apply IsS84.set_4) | exact HI0.out)) hb); have n1_ := Aside0.mk (below_step HBW.out hb); have n2_ := Aside0.mk (below_step (by repeat (first | (with_reducible first | exact HB.out | apply below_alloc | apply pw_below_drewN | apply below_drew1 | refine below_set ?_ (IsS84.ge HI0.out)) | exact HB.out)) hb); have n3_ := Aside0.mk (hbox); have n4_ := Aside0.mk ((by rw [hg]; exact (below_size (by repeat (first | (with_reducible first | exact HBW.out | apply below_alloc | apply pw_below_drewN | apply below_drew1 | refine below_set ?_ (IsS84.ge HI0.out)) | exact HBW.out))) : w.heap.size ≤ gb188)); have n5_ := Aside0.mk ((Nat.le_trans HW0.out (by rw [hg]; exact (below_size (by repeat (first | (with_reducible first | exact HBW.out | apply below_alloc | apply pw_below_drewN | apply below_drew1 | refine below_set ?_ (IsS84.ge HI0.out)) | exact HBW.out))) : w.heap.size ≤ gb188) : w0.heap.size ≤ gb188)); have n6_ := Aside0.mk ((by rw [hg]; exact Nat.ne_of_lt (IsS84.lt (show IsS84 w0 _ g s0_0 s0_1 s0_2 s0_3 s0_4 from by repeat (first | (with_reducible first | exact HI0.out | apply IsS84.alloc | apply IsS84.drewN | apply IsS84.drew | apply IsS84.set_0 | apply IsS84.set_1 | apply IsS84.set_2 | apply IsS84.set_3 | apply IsS84.set_4) | exact HI0.out))) : g ≠ gb188)); have n7_ := Aside0.mk ((by rw [hg]; exact Nat.ne_of_gt (IsS84.lt (show IsS84 w0 _ g s0_0 s0_1 s0_2 s0_3 s0_4 from by repeat (first | (with_reducible first | exact HI0.out | apply IsS84.alloc | apply IsS84.drewN | apply IsS84.drew | apply IsS84.set_0 | apply IsS84.set_1 | apply IsS84.set_2 | apply IsS84.set_3 | apply IsS84.set_4) | exact HI0.out))) : gb188 ≠ g)); clear HI0; clear HBW; clear HB; have HI0 := n0_; have HBW := n1_; have HB := n2_; have BK188 := n3_; have GW188 := n4_; have GE188 := n5_; have NB0_188 := n6_; have NB188_0 := n7_; clear n0_ n1_ n2_ n3_ n4_ n5_ n6_ n7_; clear hb hbox hg; have hnb4 := NB188_0.out; have hnc4 := NB0_188.out; have hcz5_0 : w3.cell? ⟨gb188, 0, none⟩ = some (.int .i64 0) := (blk_cell BK188.out 0).trans rfl; have hcz5_1 : w3.cell? ⟨gb188, 1, none⟩ = some (.int .i64 0) := (blk_cell BK188.out 1).trans rfl; have hcz5_2 : w3.cell? ⟨gb188, 2, none⟩ = some (.int .i64 0) := (blk_cell BK188.out 2).trans rfl; have hcz5_3 : w3.cell? ⟨gb188, 3, none⟩ = some (.int .i64 0) := (blk_cell BK188.out 3).trans rfl; have hcz5_4 : w3.cell? ⟨gb188, 4, none⟩ = some (.int .i64 0) := (blk_cell BK188.out 4).trans rfl; have hfz5_0 := blk_frozen BK188.out 0; have hfz5_1 := blk_frozen BK188.out 1; have hfz5_2 := blk_frozen BK188.out 2; have hfz5_3 := blk_frozen BK188.out 3; have hfz5_4 := blk_frozen BK188.out 4))
  go_ret
  exact ⟨_, rfl, (show IsS84 w0 _ gb188 s0_0 s0_1 s0_2 s0_3 s0_4 from ⟨by (with_reducible repeat (first | refine blk_drewN ?_ _ | refine blk_drew ?_ | refine blk_alloc ?_ _)); refine blk_put (cs := #[.int .i64 s0_0, .int .i64 s0_1, .int .i64 s0_2, .int .i64 s0_3, .int .i64 0]) ?_ 4 _ rfl; (with_reducible repeat (first | refine blk_drewN ?_ _ | refine blk_drew ?_ | refine blk_alloc ?_ _)); refine blk_put (cs := #[.int .i64 s0_0, .int .i64 s0_1, .int .i64 s0_2, .int .i64 0, .int .i64 0]) ?_ 3 _ rfl; (with_reducible repeat (first | refine blk_drewN ?_ _ | refine blk_drew ?_ | refine blk_alloc ?_ _)); refine blk_put (cs := #[.int .i64 s0_0, .int .i64 s0_1, .int .i64 0, .int .i64 0, .int .i64 0]) ?_ 2 _ rfl; (with_reducible repeat (first | refine blk_drewN ?_ _ | refine blk_drew ?_ | refine blk_alloc ?_ _)); refine blk_put (cs := #[.int .i64 s0_0, .int .i64 0, .int .i64 0, .int .i64 0, .int .i64 0]) ?_ 1 _ rfl; (with_reducible repeat (first | refine blk_drewN ?_ _ | refine blk_drew ?_ | refine blk_alloc ?_ _)); refine blk_put (cs := #[.int .i64 0, .int .i64 0, .int .i64 0, .int .i64 0, .int .i64 0]) ?_ 0 _ rfl; (with_reducible repeat (first | refine blk_drewN ?_ _ | refine blk_drew ?_ | refine blk_alloc ?_ _)); exact BK188.out, GE188.out⟩), by repeat (first | (with_reducible first | exact HB.out | apply below_alloc | apply pw_below_drewN | apply below_drew1 | refine below_set ?_ (IsS84.ge HI0.out) | refine below_set ?_ GE188.out) | exact HB.out), by repeat (first | (with_reducible first | exact HBW.out | apply below_alloc | apply pw_below_drewN | apply below_drew1 | refine below_set ?_ (IsS84.ge HI0.out) | refine below_set ?_ GW188.out) | exact HBW.out), GW188.out⟩

/-! ### budget_Server_Clone_nil0: function 100027 -/
def budget_Server_Clone_nil0.f  : Option (Unit) := some ()
set_option maxHeartbeats 8000000 in
set_option maxRecDepth 100000 in
theorem budget_Server_Clone_nil0.calls  (w : World) (h : budget_Server_Clone_nil0.f  = some ()) :
    Calls Try.prog 27 #[.pointer none] w fun e w' => e = .returned (.pointer none) ∧ Below w.heap.size w w' := by
  have hu25 := Try.underlying25
  have hnl25 := fun (p : Option Addr) (W : World) => eql_nil_left W 25 p Try.underlying25
  have hnr25 := fun (p : Option Addr) (W : World) => neq_nil_left W 25 p Try.underlying25
  have hu84 := Try.underlying84
  have HB := Aside0.mk (Below.refl w.heap.size w)
  have H : (some ()) = some () := h
  clear h
  go_enter Try.func27, Try.ntmps27
  go_wp2
  go_ret
  exact ⟨by first | rfl | (simp [errW_none, errW_some] <;> rfl) | (simp [*, errW_none, errW_some] <;> rfl), by repeat (first | (with_reducible first | exact HB.out | apply below_alloc | apply pw_below_drewN | apply below_drew1) | exact HB.out)⟩

/-! ### monocoquelaw30_BudgetNil: function 8 -/
def monocoquelaw30_BudgetNil.f (k : Nat) (a0 : Int) (a1 : Int) : Option (Bool) := (budget_Server_Reset_nil0.f a0).bind fun _ => ((budget_Server_Charge_nil0.f a0 a1).bind fun bt189 => ((budget_New.f 1 1).bind fun bt191 => ((monocoquelaw30_known.f k).bind fun t198 => (if t198 = true then (if bt191.2.2.2.2.2 = 0 then (if bt189.1 = 0 then (if (bt189.2 == (decide (a1 > 0))) = true then ((budget_Server_Left_nil0.f a0).bind fun t199 => (if t199 = 0 then ((budget_Server_Next_nil0.f a0).bind fun t200 => (if t200 = 0 then ((budget_Server_Clone_nil0.f).bind fun _ => ((budget_Server_Same_nil01.f).bind fun t201 => (if t201 = true then ((budget_Server_Same_nil0.f bt191.1 bt191.2.1 bt191.2.2.1 bt191.2.2.2.1 bt191.2.2.2.2.1).bind fun bt202 => (some (!bt202.1))) else (some false)))) else (some false))) else (some false))) else (some false)) else (some false)) else (some false)) else (some false)))))
theorem monocoquelaw30_BudgetNil.mono : ∀ a0 a1 k, LeO (monocoquelaw30_BudgetNil.f k a0 a1) (monocoquelaw30_BudgetNil.f (k + 1) a0 a1) := by
  intro a0 a1 k
  unfold monocoquelaw30_BudgetNil.f
  repeat' first
      | (with_reducible exact monocoquelaw30_known.mono _)
      | (with_reducible exact LeO.refl _)
      | (with_reducible exact LeO.none _)
      | (with_reducible refine LeO.ite ?_ ?_)
      | (with_reducible refine LeO.bind ?_ (fun _ => ?_))
      | exact monocoquelaw30_known.mono _
      | exact LeO.none _
      | refine LeO.ite ?_ ?_
      | refine LeO.bind ?_ (fun _ => ?_)
set_option maxHeartbeats 8000000 in
set_option maxRecDepth 100000 in
theorem monocoquelaw30_BudgetNil.calls (k : Nat) (a0 : Int) (a1 : Int) (r : Bool) (w : World) (h : monocoquelaw30_BudgetNil.f k a0 a1 = some r) :
    Calls Try.prog 8 #[.int .i64 a0, .int .i64 a1] w fun e w' => e = .returned (.bool r) ∧ Below w.heap.size w w' := by
  have hu25 := Try.underlying25
  have HB := Aside0.mk (Below.refl w.heap.size w)
  have H : ((budget_Server_Reset_nil0.f a0).bind fun _ => ((budget_Server_Charge_nil0.f a0 a1).bind fun bt189 => ((budget_New.f 1 1).bind fun bt191 => ((monocoquelaw30_known.f k).bind fun t198 => (if t198 = true then (if bt191.2.2.2.2.2 = 0 then (if bt189.1 = 0 then (if (bt189.2 == (decide (a1 > 0))) = true then ((budget_Server_Left_nil0.f a0).bind fun t199 => (if t199 = 0 then ((budget_Server_Next_nil0.f a0).bind fun t200 => (if t200 = 0 then ((budget_Server_Clone_nil0.f).bind fun _ => ((budget_Server_Same_nil01.f).bind fun t201 => (if t201 = true then ((budget_Server_Same_nil0.f bt191.1 bt191.2.1 bt191.2.2.1 bt191.2.2.2.1 bt191.2.2.2.2.1).bind fun bt202 => (some (!bt202.1))) else (some false)))) else (some false))) else (some false))) else (some false)) else (some false)) else (some false)) else (some false)))))) = some r := h
  clear h
  replace H := Option.bind_eq_some_iff.mp H
  obtain ⟨_, A30, H⟩ := H
  replace H : ((budget_Server_Charge_nil0.f a0 a1).bind fun bt189 => ((budget_New.f 1 1).bind fun bt191 => ((monocoquelaw30_known.f k).bind fun t198 => (if t198 = true then (if bt191.2.2.2.2.2 = 0 then (if bt189.1 = 0 then (if (bt189.2 == (decide (a1 > 0))) = true then ((budget_Server_Left_nil0.f a0).bind fun t199 => (if t199 = 0 then ((budget_Server_Next_nil0.f a0).bind fun t200 => (if t200 = 0 then ((budget_Server_Clone_nil0.f).bind fun _ => ((budget_Server_Same_nil01.f).bind fun t201 => (if t201 = true then ((budget_Server_Same_nil0.f bt191.1 bt191.2.1 bt191.2.2.1 bt191.2.2.2.1 bt191.2.2.2.2.1).bind fun bt202 => (some (!bt202.1))) else (some false)))) else (some false))) else (some false))) else (some false)) else (some false)) else (some false)) else (some false))))) = some r := H
  have A3 := Aside0.mk A30
  clear A30
  replace H := Option.bind_eq_some_iff.mp H
  obtain ⟨⟨t189, t190⟩, A40, H⟩ := H
  replace H : ((budget_New.f 1 1).bind fun bt191 => ((monocoquelaw30_known.f k).bind fun t198 => (if t198 = true then (if bt191.2.2.2.2.2 = 0 then (if t189 = 0 then (if (t190 == (decide (a1 > 0))) = true then ((budget_Server_Left_nil0.f a0).bind fun t199 => (if t199 = 0 then ((budget_Server_Next_nil0.f a0).bind fun t200 => (if t200 = 0 then ((budget_Server_Clone_nil0.f).bind fun _ => ((budget_Server_Same_nil01.f).bind fun t201 => (if t201 = true then ((budget_Server_Same_nil0.f bt191.1 bt191.2.1 bt191.2.2.1 bt191.2.2.2.1 bt191.2.2.2.2.1).bind fun bt202 => (some (!bt202.1))) else (some false)))) else (some false))) else (some false))) else (some false)) else (some false)) else (some false)) else (some false)))) = some r := H
  have A4 := Aside0.mk A40
  clear A40
  replace H := Option.bind_eq_some_iff.mp H
  obtain ⟨⟨t191, t192, t193, t194, t195, t197⟩, A50, H⟩ := H
  replace H : ((monocoquelaw30_known.f k).bind fun t198 => (if t198 = true then (if t197 = 0 then (if t189 = 0 then (if (t190 == (decide (a1 > 0))) = true then ((budget_Server_Left_nil0.f a0).bind fun t199 => (if t199 = 0 then ((budget_Server_Next_nil0.f a0).bind fun t200 => (if t200 = 0 then ((budget_Server_Clone_nil0.f).bind fun _ => ((budget_Server_Same_nil01.f).bind fun t201 => (if t201 = true then ((budget_Server_Same_nil0.f t191 t192 t193 t194 t195).bind fun bt202 => (some (!bt202.1))) else (some false)))) else (some false))) else (some false))) else (some false)) else (some false)) else (some false)) else (some false))) = some r := H
  have A5 := Aside0.mk A50
  clear A50
  replace H := Option.bind_eq_some_iff.mp H
  obtain ⟨t198, A60, H⟩ := H
  replace H : (if t198 = true then (if t197 = 0 then (if t189 = 0 then (if (t190 == (decide (a1 > 0))) = true then ((budget_Server_Left_nil0.f a0).bind fun t199 => (if t199 = 0 then ((budget_Server_Next_nil0.f a0).bind fun t200 => (if t200 = 0 then ((budget_Server_Clone_nil0.f).bind fun _ => ((budget_Server_Same_nil01.f).bind fun t201 => (if t201 = true then ((budget_Server_Same_nil0.f t191 t192 t193 t194 t195).bind fun bt202 => (some (!bt202.1))) else (some false)))) else (some false))) else (some false))) else (some false)) else (some false)) else (some false)) else (some false)) = some r := H
  have A6 := Aside0.mk A60
  clear A60
  by_cases c7 : t198 = true
  · subst c7
    have H1 : (if t197 = 0 then (if t189 = 0 then (if (t190 == (decide (a1 > 0))) = true then ((budget_Server_Left_nil0.f a0).bind fun t199 => (if t199 = 0 then ((budget_Server_Next_nil0.f a0).bind fun t200 => (if t200 = 0 then ((budget_Server_Clone_nil0.f).bind fun _ => ((budget_Server_Same_nil01.f).bind fun t201 => (if t201 = true then ((budget_Server_Same_nil0.f t191 t192 t193 t194 t195).bind fun bt202 => (some (!bt202.1))) else (some false)))) else (some false))) else (some false))) else (some false)) else (some false)) else (some false)) = some r := by rw [if_pos rfl] at H; exact H
    clear H
    have H := H1
    clear H1
    by_cases c8 : t197 = 0
    · rw [if_pos c8] at H
      have c8b0 : (t197 == 0) = true := beq_iff_eq.mpr c8
      have c8b1 : (t197 != 0) = false := bne_eq_false_iff_eq.mpr c8
      clear c8
      by_cases c9 : t189 = 0
      · rw [if_pos c9] at H
        have c9b0 : (t189 == 0) = true := beq_iff_eq.mpr c9
        have c9b1 : (t189 != 0) = false := bne_eq_false_iff_eq.mpr c9
        clear c9
        by_cases c10 : (t190 == (decide (a1 > 0))) = true
        · rw [if_pos c10] at H
          have c10b0 : (t190 == (decide (a1 > 0))) = true := c10
          (try (have c10b1 : decide (t190 = (decide (a1 > 0))) = true := by simpa using c10))
          (try (have c10b2 : (t190 == (decide (a1 > 0))) = true := by simpa using c10))
          clear c10
          replace H := Option.bind_eq_some_iff.mp H
          obtain ⟨t199, A110, H⟩ := H
          replace H : (if t199 = 0 then ((budget_Server_Next_nil0.f a0).bind fun t200 => (if t200 = 0 then ((budget_Server_Clone_nil0.f).bind fun _ => ((budget_Server_Same_nil01.f).bind fun t201 => (if t201 = true then ((budget_Server_Same_nil0.f t191 t192 t193 t194 t195).bind fun bt202 => (some (!bt202.1))) else (some false)))) else (some false))) else (some false)) = some r := H
          have A11 := Aside0.mk A110
          clear A110
          by_cases c12 : t199 = 0
          · rw [if_pos c12] at H
            have c12b0 : (t199 == 0) = true := beq_iff_eq.mpr c12
            have c12b1 : (t199 != 0) = false := bne_eq_false_iff_eq.mpr c12
            clear c12
            replace H := Option.bind_eq_some_iff.mp H
            obtain ⟨t200, A130, H⟩ := H
            replace H : (if t200 = 0 then ((budget_Server_Clone_nil0.f).bind fun _ => ((budget_Server_Same_nil01.f).bind fun t201 => (if t201 = true then ((budget_Server_Same_nil0.f t191 t192 t193 t194 t195).bind fun bt202 => (some (!bt202.1))) else (some false)))) else (some false)) = some r := H
            have A13 := Aside0.mk A130
            clear A130
            by_cases c14 : t200 = 0
            · rw [if_pos c14] at H
              have c14b0 : (t200 == 0) = true := beq_iff_eq.mpr c14
              have c14b1 : (t200 != 0) = false := bne_eq_false_iff_eq.mpr c14
              clear c14
              replace H := Option.bind_eq_some_iff.mp H
              obtain ⟨_, A150, H⟩ := H
              replace H : ((budget_Server_Same_nil01.f).bind fun t201 => (if t201 = true then ((budget_Server_Same_nil0.f t191 t192 t193 t194 t195).bind fun bt202 => (some (!bt202.1))) else (some false))) = some r := H
              have A15 := Aside0.mk A150
              clear A150
              replace H := Option.bind_eq_some_iff.mp H
              obtain ⟨t201, A160, H⟩ := H
              replace H : (if t201 = true then ((budget_Server_Same_nil0.f t191 t192 t193 t194 t195).bind fun bt202 => (some (!bt202.1))) else (some false)) = some r := H
              have A16 := Aside0.mk A160
              clear A160
              by_cases c17 : t201 = true
              · subst c17
                have H1 : ((budget_Server_Same_nil0.f t191 t192 t193 t194 t195).bind fun bt202 => (some (!bt202.1))) = some r := by rw [if_pos rfl] at H; exact H
                clear H
                have H := H1
                clear H1
                replace H := Option.bind_eq_some_iff.mp H
                obtain ⟨⟨t202, t203, t204, t205, t206, t207⟩, A180, H⟩ := H
                replace H : (some (!t202)) = some r := H
                have A18 := Aside0.mk A180
                clear A180
                obtain rfl := Option.some.inj H
                go_enter Try.func8, Try.ntmps8
                go_wp2_with (first | ((with_reducible refine gate_callee (f := 20) rfl ?_); refine goesL_ (some 12) rfl rfl Try.func20 (by kernel_rfl) rfl #[.pointer none, .int .i64 a0] rfl (by (try simp only [List.map_toArray, List.map_cons, List.map_nil]); first | done | rfl | (simp only [List.length_drop, List.length_take]; rfl)) ?_; (with_reducible refine (budget_Server_Reset_nil0.calls  a0  _ A3.out).mono ?_); rintro e w19 ⟨rfl, hb⟩; refine ⟨_, rfl, ?_⟩; have n0_ := Aside0.mk (below_step (by repeat (first | (with_reducible first | exact HB.out | apply below_alloc | apply pw_below_drewN | apply below_drew1) | exact HB.out)) hb); clear HB; have HB := n0_; clear n0_; (try clear hb); (try clear hb2); (try clear hge); (try clear hk); (try clear hi)) | ((with_reducible refine gate_callee (f := 16) rfl ?_); refine goesL_ (some 17) rfl rfl Try.func16 (by kernel_rfl) rfl #[.pointer none, .int .i64 a0, .int .i64 a1] rfl (by (try simp only [List.map_toArray, List.map_cons, List.map_nil]); first | done | rfl | (simp only [List.length_drop, List.length_take]; rfl)) ?_; (with_reducible refine (budget_Server_Charge_nil0.calls  a0 a1 t189 t190 _ A4.out).mono ?_); rintro e w20 ⟨rfl, hb⟩; refine ⟨_, rfl, ?_⟩; have n0_ := Aside0.mk (below_step (by repeat (first | (with_reducible first | exact HB.out | apply below_alloc | apply pw_below_drewN | apply below_drew1) | exact HB.out)) hb); clear HB; have HB := n0_; clear n0_; (try clear hb); (try clear hb2); (try clear hge); (try clear hk); (try clear hi)) | ((with_reducible refine gate_callee (f := 15) rfl ?_); refine goesL_ (some 21) rfl rfl Try.func15 (by kernel_rfl) rfl #[.int .i64 1, .int .i64 1] rfl (by (try simp only [List.map_toArray, List.map_cons, List.map_nil]); first | done | rfl | (simp only [List.length_drop, List.length_take]; rfl)) ?_; (with_reducible refine (budget_New.calls 1 1 t191 t192 t193 t194 t195 t197 w _ ?side1 A5.out).mono ?_); (case side1 => repeat (first | (with_reducible first | exact HB.out | apply below_alloc | apply pw_below_drewN | apply below_drew1) | exact HB.out)); rintro e w21 ⟨g196, rfl, hi, hb, hb2, hge⟩; refine ⟨_, rfl, ?_⟩; have n0_ := Aside0.mk (hb); have n1_ := Aside0.mk (hi); clear HB; have HB := n0_; have HI196 := n1_; clear n0_ n1_; (try clear hb); (try clear hb2); (try clear hge); (try clear hk); (try clear hi)) | ((with_reducible refine gate_callee (f := 19) rfl ?_); refine goesL_ (some 24) rfl rfl Try.func19 (by kernel_rfl) rfl #[] rfl (by (try simp only [List.map_toArray, List.map_cons, List.map_nil]); first | done | rfl | (simp only [List.length_drop, List.length_take]; rfl)) ?_; (with_reducible refine (monocoquelaw30_known.calls k  true _ A6.out).mono ?_); rintro e w22 ⟨rfl, hb⟩; refine ⟨_, rfl, ?_⟩; have n0_ := Aside0.mk (IsS84.below (by repeat (first | (with_reducible first | exact HI196.out | apply IsS84.alloc | apply IsS84.drewN | apply IsS84.drew | apply IsS84.set_0 | apply IsS84.set_1 | apply IsS84.set_2 | apply IsS84.set_3 | apply IsS84.set_4) | exact HI196.out)) hb); have n1_ := Aside0.mk (below_step (by repeat (first | (with_reducible first | exact HB.out | apply below_alloc | apply pw_below_drewN | apply below_drew1 | refine below_set ?_ (IsS84.ge HI196.out)) | exact HB.out)) hb); clear HI196; clear HB; have HI196 := n0_; have HB := n1_; clear n0_ n1_; (try clear hb); (try clear hb2); (try clear hge); (try clear hk); (try clear hi)) | (go_at_call 18; (with_reducible refine (budget_Server_Left_nil0.calls  a0 t199 _ A11.out).mono ?_); rintro e w23 ⟨rfl, hb⟩; have n0_ := Aside0.mk (IsS84.below (by repeat (first | (with_reducible first | exact HI196.out | apply IsS84.alloc | apply IsS84.drewN | apply IsS84.drew | apply IsS84.set_0 | apply IsS84.set_1 | apply IsS84.set_2 | apply IsS84.set_3 | apply IsS84.set_4) | exact HI196.out)) hb); have n1_ := Aside0.mk (below_step (by repeat (first | (with_reducible first | exact HB.out | apply below_alloc | apply pw_below_drewN | apply below_drew1 | refine below_set ?_ (IsS84.ge HI196.out)) | exact HB.out)) hb); clear HI196; clear HB; have HI196 := n0_; have HB := n1_; clear n0_ n1_; (try clear hb); (try clear hb2); (try clear hge); (try clear hk); (try clear hi)) | (go_at_call 17; (with_reducible refine (budget_Server_Next_nil0.calls  a0 t200 _ A13.out).mono ?_); rintro e w24 ⟨rfl, hb⟩; have n0_ := Aside0.mk (IsS84.below (by repeat (first | (with_reducible first | exact HI196.out | apply IsS84.alloc | apply IsS84.drewN | apply IsS84.drew | apply IsS84.set_0 | apply IsS84.set_1 | apply IsS84.set_2 | apply IsS84.set_3 | apply IsS84.set_4) | exact HI196.out)) hb); have n1_ := Aside0.mk (below_step (by repeat (first | (with_reducible first | exact HB.out | apply below_alloc | apply pw_below_drewN | apply below_drew1 | refine below_set ?_ (IsS84.ge HI196.out)) | exact HB.out)) hb); clear HI196; clear HB; have HI196 := n0_; have HB := n1_; clear n0_ n1_; (try clear hb); (try clear hb2); (try clear hge); (try clear hk); (try clear hi)) | (go_at_call 27; (with_reducible refine (budget_Server_Clone_nil0.calls   _ A15.out).mono ?_); rintro e w25 ⟨rfl, hb⟩; have n0_ := Aside0.mk (IsS84.below (by repeat (first | (with_reducible first | exact HI196.out | apply IsS84.alloc | apply IsS84.drewN | apply IsS84.drew | apply IsS84.set_0 | apply IsS84.set_1 | apply IsS84.set_2 | apply IsS84.set_3 | apply IsS84.set_4) | exact HI196.out)) hb); have n1_ := Aside0.mk (below_step (by repeat (first | (with_reducible first | exact HB.out | apply below_alloc | apply pw_below_drewN | apply below_drew1 | refine below_set ?_ (IsS84.ge HI196.out)) | exact HB.out)) hb); clear HI196; clear HB; have HI196 := n0_; have HB := n1_; clear n0_ n1_; (try clear hb); (try clear hb2); (try clear hge); (try clear hk); (try clear hi)) | (go_at_call 21; (with_reducible refine (budget_Server_Same_nil01.calls   true _ A16.out).mono ?_); rintro e w' ⟨rfl, ⟨nd, rfl⟩⟩) | (go_at_call 21; (with_reducible refine (budget_Server_Same_nil0.calls  g196 t191 t192 t193 t194 t195 t202 t203 t204 t205 t206 t207 w _ ?side1 ?side2 A18.out).mono ?_); (case side1 => repeat (first | (with_reducible first | exact HI196.out | apply IsS84.alloc | apply IsS84.drewN | apply IsS84.drew | apply IsS84.set_0 | apply IsS84.set_1 | apply IsS84.set_2 | apply IsS84.set_3 | apply IsS84.set_4) | exact HI196.out)); (case side2 => repeat (first | (with_reducible first | exact HB.out | apply below_alloc | apply pw_below_drewN | apply below_drew1 | refine below_set ?_ (IsS84.ge HI196.out)) | exact HB.out)); rintro e w26 ⟨rfl, hi, hb, hk⟩; have n0_ := Aside0.mk (hb); have n1_ := Aside0.mk (hi); clear HB; clear HI196; have HB := n0_; have HI196 := n1_; clear n0_ n1_; (try clear hb); (try clear hb2); (try clear hge); (try clear hk); (try clear hi)))
                go_ret
                exact ⟨by first | rfl | (simp [errW_none, errW_some] <;> rfl) | (simp [*, errW_none, errW_some] <;> rfl), by repeat (first | (with_reducible first | exact HB.out | apply below_alloc | apply pw_below_drewN | apply below_drew1 | refine below_set ?_ (IsS84.ge HI196.out)) | exact HB.out)⟩
              · replace c17 := Bool.eq_false_iff.mpr c17
                subst c17
                have H1 : (some false) = some r := by rw [if_neg (show ¬ (false = true) by decide)] at H; exact H
                clear H
                have H := H1
                clear H1
                obtain rfl := Option.some.inj H
                go_enter Try.func8, Try.ntmps8
                go_wp2_with (first | ((with_reducible refine gate_callee (f := 20) rfl ?_); refine goesL_ (some 12) rfl rfl Try.func20 (by kernel_rfl) rfl #[.pointer none, .int .i64 a0] rfl (by (try simp only [List.map_toArray, List.map_cons, List.map_nil]); first | done | rfl | (simp only [List.length_drop, List.length_take]; rfl)) ?_; (with_reducible refine (budget_Server_Reset_nil0.calls  a0  _ A3.out).mono ?_); rintro e w27 ⟨rfl, hb⟩; refine ⟨_, rfl, ?_⟩; have n0_ := Aside0.mk (below_step (by repeat (first | (with_reducible first | exact HB.out | apply below_alloc | apply pw_below_drewN | apply below_drew1) | exact HB.out)) hb); clear HB; have HB := n0_; clear n0_; (try clear hb); (try clear hb2); (try clear hge); (try clear hk); (try clear hi)) | ((with_reducible refine gate_callee (f := 16) rfl ?_); refine goesL_ (some 17) rfl rfl Try.func16 (by kernel_rfl) rfl #[.pointer none, .int .i64 a0, .int .i64 a1] rfl (by (try simp only [List.map_toArray, List.map_cons, List.map_nil]); first | done | rfl | (simp only [List.length_drop, List.length_take]; rfl)) ?_; (with_reducible refine (budget_Server_Charge_nil0.calls  a0 a1 t189 t190 _ A4.out).mono ?_); rintro e w28 ⟨rfl, hb⟩; refine ⟨_, rfl, ?_⟩; have n0_ := Aside0.mk (below_step (by repeat (first | (with_reducible first | exact HB.out | apply below_alloc | apply pw_below_drewN | apply below_drew1) | exact HB.out)) hb); clear HB; have HB := n0_; clear n0_; (try clear hb); (try clear hb2); (try clear hge); (try clear hk); (try clear hi)) | ((with_reducible refine gate_callee (f := 15) rfl ?_); refine goesL_ (some 21) rfl rfl Try.func15 (by kernel_rfl) rfl #[.int .i64 1, .int .i64 1] rfl (by (try simp only [List.map_toArray, List.map_cons, List.map_nil]); first | done | rfl | (simp only [List.length_drop, List.length_take]; rfl)) ?_; (with_reducible refine (budget_New.calls 1 1 t191 t192 t193 t194 t195 t197 w _ ?side1 A5.out).mono ?_); (case side1 => repeat (first | (with_reducible first | exact HB.out | apply below_alloc | apply pw_below_drewN | apply below_drew1) | exact HB.out)); rintro e w29 ⟨g196, rfl, hi, hb, hb2, hge⟩; refine ⟨_, rfl, ?_⟩; have n0_ := Aside0.mk (hb); have n1_ := Aside0.mk (hi); clear HB; have HB := n0_; have HI196 := n1_; clear n0_ n1_; (try clear hb); (try clear hb2); (try clear hge); (try clear hk); (try clear hi)) | ((with_reducible refine gate_callee (f := 19) rfl ?_); refine goesL_ (some 24) rfl rfl Try.func19 (by kernel_rfl) rfl #[] rfl (by (try simp only [List.map_toArray, List.map_cons, List.map_nil]); first | done | rfl | (simp only [List.length_drop, List.length_take]; rfl)) ?_; (with_reducible refine (monocoquelaw30_known.calls k  true _ A6.out).mono ?_); rintro e w30 ⟨rfl, hb⟩; refine ⟨_, rfl, ?_⟩; have n0_ := Aside0.mk (IsS84.below (by repeat (first | (with_reducible first | exact HI196.out | apply IsS84.alloc | apply IsS84.drewN | apply IsS84.drew | apply IsS84.set_0 | apply IsS84.set_1 | apply IsS84.set_2 | apply IsS84.set_3 | apply IsS84.set_4) | exact HI196.out)) hb); have n1_ := Aside0.mk (below_step (by repeat (first | (with_reducible first | exact HB.out | apply below_alloc | apply pw_below_drewN | apply below_drew1 | refine below_set ?_ (IsS84.ge HI196.out)) | exact HB.out)) hb); clear HI196; clear HB; have HI196 := n0_; have HB := n1_; clear n0_ n1_; (try clear hb); (try clear hb2); (try clear hge); (try clear hk); (try clear hi)) | (go_at_call 18; (with_reducible refine (budget_Server_Left_nil0.calls  a0 t199 _ A11.out).mono ?_); rintro e w31 ⟨rfl, hb⟩; have n0_ := Aside0.mk (IsS84.below (by repeat (first | (with_reducible first | exact HI196.out | apply IsS84.alloc | apply IsS84.drewN | apply IsS84.drew | apply IsS84.set_0 | apply IsS84.set_1 | apply IsS84.set_2 | apply IsS84.set_3 | apply IsS84.set_4) | exact HI196.out)) hb); have n1_ := Aside0.mk (below_step (by repeat (first | (with_reducible first | exact HB.out | apply below_alloc | apply pw_below_drewN | apply below_drew1 | refine below_set ?_ (IsS84.ge HI196.out)) | exact HB.out)) hb); clear HI196; clear HB; have HI196 := n0_; have HB := n1_; clear n0_ n1_; (try clear hb); (try clear hb2); (try clear hge); (try clear hk); (try clear hi)) | (go_at_call 17; (with_reducible refine (budget_Server_Next_nil0.calls  a0 t200 _ A13.out).mono ?_); rintro e w32 ⟨rfl, hb⟩; have n0_ := Aside0.mk (IsS84.below (by repeat (first | (with_reducible first | exact HI196.out | apply IsS84.alloc | apply IsS84.drewN | apply IsS84.drew | apply IsS84.set_0 | apply IsS84.set_1 | apply IsS84.set_2 | apply IsS84.set_3 | apply IsS84.set_4) | exact HI196.out)) hb); have n1_ := Aside0.mk (below_step (by repeat (first | (with_reducible first | exact HB.out | apply below_alloc | apply pw_below_drewN | apply below_drew1 | refine below_set ?_ (IsS84.ge HI196.out)) | exact HB.out)) hb); clear HI196; clear HB; have HI196 := n0_; have HB := n1_; clear n0_ n1_; (try clear hb); (try clear hb2); (try clear hge); (try clear hk); (try clear hi)) | (go_at_call 27; (with_reducible refine (budget_Server_Clone_nil0.calls   _ A15.out).mono ?_); rintro e w33 ⟨rfl, hb⟩; have n0_ := Aside0.mk (IsS84.below (by repeat (first | (with_reducible first | exact HI196.out | apply IsS84.alloc | apply IsS84.drewN | apply IsS84.drew | apply IsS84.set_0 | apply IsS84.set_1 | apply IsS84.set_2 | apply IsS84.set_3 | apply IsS84.set_4) | exact HI196.out)) hb); have n1_ := Aside0.mk (below_step (by repeat (first | (with_reducible first | exact HB.out | apply below_alloc | apply pw_below_drewN | apply below_drew1 | refine below_set ?_ (IsS84.ge HI196.out)) | exact HB.out)) hb); clear HI196; clear HB; have HI196 := n0_; have HB := n1_; clear n0_ n1_; (try clear hb); (try clear hb2); (try clear hge); (try clear hk); (try clear hi)) | (go_at_call 21; (with_reducible refine (budget_Server_Same_nil01.calls   false _ A16.out).mono ?_); rintro e w' ⟨rfl, ⟨nd, rfl⟩⟩))
                go_ret
                exact ⟨by first | rfl | (simp [errW_none, errW_some] <;> rfl) | (simp [*, errW_none, errW_some] <;> rfl), by repeat (first | (with_reducible first | exact HB.out | apply below_alloc | apply pw_below_drewN | apply below_drew1 | refine below_set ?_ (IsS84.ge HI196.out)) | exact HB.out)⟩
            · rw [if_neg c14] at H
              have c14b0 : (t200 == 0) = false := beq_eq_false_iff_ne.mpr c14
              have c14b1 : (t200 != 0) = true := bne_iff_ne.mpr c14
              obtain rfl := Option.some.inj H
              go_enter Try.func8, Try.ntmps8
              go_wp2_with (first | ((with_reducible refine gate_callee (f := 20) rfl ?_); refine goesL_ (some 12) rfl rfl Try.func20 (by kernel_rfl) rfl #[.pointer none, .int .i64 a0] rfl (by (try simp only [List.map_toArray, List.map_cons, List.map_nil]); first | done | rfl | (simp only [List.length_drop, List.length_take]; rfl)) ?_; (with_reducible refine (budget_Server_Reset_nil0.calls  a0  _ A3.out).mono ?_); rintro e w34 ⟨rfl, hb⟩; refine ⟨_, rfl, ?_⟩; have n0_ := Aside0.mk (below_step (by repeat (first | (with_reducible first | exact HB.out | apply below_alloc | apply pw_below_drewN | apply below_drew1) | exact HB.out)) hb); clear HB; have HB := n0_; clear n0_; (try clear hb); (try clear hb2); (try clear hge); (try clear hk); (try clear hi)) | ((with_reducible refine gate_callee (f := 16) rfl ?_); refine goesL_ (some 17) rfl rfl Try.func16 (by kernel_rfl) rfl #[.pointer none, .int .i64 a0, .int .i64 a1] rfl (by (try simp only [List.map_toArray, List.map_cons, List.map_nil]); first | done | rfl | (simp only [List.length_drop, List.length_take]; rfl)) ?_; (with_reducible refine (budget_Server_Charge_nil0.calls  a0 a1 t189 t190 _ A4.out).mono ?_); rintro e w35 ⟨rfl, hb⟩; refine ⟨_, rfl, ?_⟩; have n0_ := Aside0.mk (below_step (by repeat (first | (with_reducible first | exact HB.out | apply below_alloc | apply pw_below_drewN | apply below_drew1) | exact HB.out)) hb); clear HB; have HB := n0_; clear n0_; (try clear hb); (try clear hb2); (try clear hge); (try clear hk); (try clear hi)) | ((with_reducible refine gate_callee (f := 15) rfl ?_); refine goesL_ (some 21) rfl rfl Try.func15 (by kernel_rfl) rfl #[.int .i64 1, .int .i64 1] rfl (by (try simp only [List.map_toArray, List.map_cons, List.map_nil]); first | done | rfl | (simp only [List.length_drop, List.length_take]; rfl)) ?_; (with_reducible refine (budget_New.calls 1 1 t191 t192 t193 t194 t195 t197 w _ ?side1 A5.out).mono ?_); (case side1 => repeat (first | (with_reducible first | exact HB.out | apply below_alloc | apply pw_below_drewN | apply below_drew1) | exact HB.out)); rintro e w36 ⟨g196, rfl, hi, hb, hb2, hge⟩; refine ⟨_, rfl, ?_⟩; have n0_ := Aside0.mk (hb); have n1_ := Aside0.mk (hi); clear HB; have HB := n0_; have HI196 := n1_; clear n0_ n1_; (try clear hb); (try clear hb2); (try clear hge); (try clear hk); (try clear hi)) | ((with_reducible refine gate_callee (f := 19) rfl ?_); refine goesL_ (some 24) rfl rfl Try.func19 (by kernel_rfl) rfl #[] rfl (by (try simp only [List.map_toArray, List.map_cons, List.map_nil]); first | done | rfl | (simp only [List.length_drop, List.length_take]; rfl)) ?_; (with_reducible refine (monocoquelaw30_known.calls k  true _ A6.out).mono ?_); rintro e w37 ⟨rfl, hb⟩; refine ⟨_, rfl, ?_⟩; have n0_ := Aside0.mk (IsS84.below (by repeat (first | (with_reducible first | exact HI196.out | apply IsS84.alloc | apply IsS84.drewN | apply IsS84.drew | apply IsS84.set_0 | apply IsS84.set_1 | apply IsS84.set_2 | apply IsS84.set_3 | apply IsS84.set_4) | exact HI196.out)) hb); have n1_ := Aside0.mk (below_step (by repeat (first | (with_reducible first | exact HB.out | apply below_alloc | apply pw_below_drewN | apply below_drew1 | refine below_set ?_ (IsS84.ge HI196.out)) | exact HB.out)) hb); clear HI196; clear HB; have HI196 := n0_; have HB := n1_; clear n0_ n1_; (try clear hb); (try clear hb2); (try clear hge); (try clear hk); (try clear hi)) | (go_at_call 18; (with_reducible refine (budget_Server_Left_nil0.calls  a0 t199 _ A11.out).mono ?_); rintro e w38 ⟨rfl, hb⟩; have n0_ := Aside0.mk (IsS84.below (by repeat (first | (with_reducible first | exact HI196.out | apply IsS84.alloc | apply IsS84.drewN | apply IsS84.drew | apply IsS84.set_0 | apply IsS84.set_1 | apply IsS84.set_2 | apply IsS84.set_3 | apply IsS84.set_4) | exact HI196.out)) hb); have n1_ := Aside0.mk (below_step (by repeat (first | (with_reducible first | exact HB.out | apply below_alloc | apply pw_below_drewN | apply below_drew1 | refine below_set ?_ (IsS84.ge HI196.out)) | exact HB.out)) hb); clear HI196; clear HB; have HI196 := n0_; have HB := n1_; clear n0_ n1_; (try clear hb); (try clear hb2); (try clear hge); (try clear hk); (try clear hi)) | (go_at_call 17; (with_reducible refine (budget_Server_Next_nil0.calls  a0 t200 _ A13.out).mono ?_); rintro e w39 ⟨rfl, hb⟩; have n0_ := Aside0.mk (IsS84.below (by repeat (first | (with_reducible first | exact HI196.out | apply IsS84.alloc | apply IsS84.drewN | apply IsS84.drew | apply IsS84.set_0 | apply IsS84.set_1 | apply IsS84.set_2 | apply IsS84.set_3 | apply IsS84.set_4) | exact HI196.out)) hb); have n1_ := Aside0.mk (below_step (by repeat (first | (with_reducible first | exact HB.out | apply below_alloc | apply pw_below_drewN | apply below_drew1 | refine below_set ?_ (IsS84.ge HI196.out)) | exact HB.out)) hb); clear HI196; clear HB; have HI196 := n0_; have HB := n1_; clear n0_ n1_; (try clear hb); (try clear hb2); (try clear hge); (try clear hk); (try clear hi)))
              go_ret
              exact ⟨by first | rfl | (simp [errW_none, errW_some] <;> rfl) | (simp [*, errW_none, errW_some] <;> rfl), by repeat (first | (with_reducible first | exact HB.out | apply below_alloc | apply pw_below_drewN | apply below_drew1 | refine below_set ?_ (IsS84.ge HI196.out)) | exact HB.out)⟩
          · rw [if_neg c12] at H
            have c12b0 : (t199 == 0) = false := beq_eq_false_iff_ne.mpr c12
            have c12b1 : (t199 != 0) = true := bne_iff_ne.mpr c12
            obtain rfl := Option.some.inj H
            go_enter Try.func8, Try.ntmps8
            go_wp2_with (first | ((with_reducible refine gate_callee (f := 20) rfl ?_); refine goesL_ (some 12) rfl rfl Try.func20 (by kernel_rfl) rfl #[.pointer none, .int .i64 a0] rfl (by (try simp only [List.map_toArray, List.map_cons, List.map_nil]); first | done | rfl | (simp only [List.length_drop, List.length_take]; rfl)) ?_; (with_reducible refine (budget_Server_Reset_nil0.calls  a0  _ A3.out).mono ?_); rintro e w40 ⟨rfl, hb⟩; refine ⟨_, rfl, ?_⟩; have n0_ := Aside0.mk (below_step (by repeat (first | (with_reducible first | exact HB.out | apply below_alloc | apply pw_below_drewN | apply below_drew1) | exact HB.out)) hb); clear HB; have HB := n0_; clear n0_; (try clear hb); (try clear hb2); (try clear hge); (try clear hk); (try clear hi)) | ((with_reducible refine gate_callee (f := 16) rfl ?_); refine goesL_ (some 17) rfl rfl Try.func16 (by kernel_rfl) rfl #[.pointer none, .int .i64 a0, .int .i64 a1] rfl (by (try simp only [List.map_toArray, List.map_cons, List.map_nil]); first | done | rfl | (simp only [List.length_drop, List.length_take]; rfl)) ?_; (with_reducible refine (budget_Server_Charge_nil0.calls  a0 a1 t189 t190 _ A4.out).mono ?_); rintro e w41 ⟨rfl, hb⟩; refine ⟨_, rfl, ?_⟩; have n0_ := Aside0.mk (below_step (by repeat (first | (with_reducible first | exact HB.out | apply below_alloc | apply pw_below_drewN | apply below_drew1) | exact HB.out)) hb); clear HB; have HB := n0_; clear n0_; (try clear hb); (try clear hb2); (try clear hge); (try clear hk); (try clear hi)) | ((with_reducible refine gate_callee (f := 15) rfl ?_); refine goesL_ (some 21) rfl rfl Try.func15 (by kernel_rfl) rfl #[.int .i64 1, .int .i64 1] rfl (by (try simp only [List.map_toArray, List.map_cons, List.map_nil]); first | done | rfl | (simp only [List.length_drop, List.length_take]; rfl)) ?_; (with_reducible refine (budget_New.calls 1 1 t191 t192 t193 t194 t195 t197 w _ ?side1 A5.out).mono ?_); (case side1 => repeat (first | (with_reducible first | exact HB.out | apply below_alloc | apply pw_below_drewN | apply below_drew1) | exact HB.out)); rintro e w42 ⟨g196, rfl, hi, hb, hb2, hge⟩; refine ⟨_, rfl, ?_⟩; have n0_ := Aside0.mk (hb); have n1_ := Aside0.mk (hi); clear HB; have HB := n0_; have HI196 := n1_; clear n0_ n1_; (try clear hb); (try clear hb2); (try clear hge); (try clear hk); (try clear hi)) | ((with_reducible refine gate_callee (f := 19) rfl ?_); refine goesL_ (some 24) rfl rfl Try.func19 (by kernel_rfl) rfl #[] rfl (by (try simp only [List.map_toArray, List.map_cons, List.map_nil]); first | done | rfl | (simp only [List.length_drop, List.length_take]; rfl)) ?_; (with_reducible refine (monocoquelaw30_known.calls k  true _ A6.out).mono ?_); rintro e w43 ⟨rfl, hb⟩; refine ⟨_, rfl, ?_⟩; have n0_ := Aside0.mk (IsS84.below (by repeat (first | (with_reducible first | exact HI196.out | apply IsS84.alloc | apply IsS84.drewN | apply IsS84.drew | apply IsS84.set_0 | apply IsS84.set_1 | apply IsS84.set_2 | apply IsS84.set_3 | apply IsS84.set_4) | exact HI196.out)) hb); have n1_ := Aside0.mk (below_step (by repeat (first | (with_reducible first | exact HB.out | apply below_alloc | apply pw_below_drewN | apply below_drew1 | refine below_set ?_ (IsS84.ge HI196.out)) | exact HB.out)) hb); clear HI196; clear HB; have HI196 := n0_; have HB := n1_; clear n0_ n1_; (try clear hb); (try clear hb2); (try clear hge); (try clear hk); (try clear hi)) | (go_at_call 18; (with_reducible refine (budget_Server_Left_nil0.calls  a0 t199 _ A11.out).mono ?_); rintro e w44 ⟨rfl, hb⟩; have n0_ := Aside0.mk (IsS84.below (by repeat (first | (with_reducible first | exact HI196.out | apply IsS84.alloc | apply IsS84.drewN | apply IsS84.drew | apply IsS84.set_0 | apply IsS84.set_1 | apply IsS84.set_2 | apply IsS84.set_3 | apply IsS84.set_4) | exact HI196.out)) hb); have n1_ := Aside0.mk (below_step (by repeat (first | (with_reducible first | exact HB.out | apply below_alloc | apply pw_below_drewN | apply below_drew1 | refine below_set ?_ (IsS84.ge HI196.out)) | exact HB.out)) hb); clear HI196; clear HB; have HI196 := n0_; have HB := n1_; clear n0_ n1_; (try clear hb); (try clear hb2); (try clear hge); (try clear hk); (try clear hi)))
            go_ret
            exact ⟨by first | rfl | (simp [errW_none, errW_some] <;> rfl) | (simp [*, errW_none, errW_some] <;> rfl), by repeat (first | (with_reducible first | exact HB.out | apply below_alloc | apply pw_below_drewN | apply below_drew1 | refine below_set ?_ (IsS84.ge HI196.out)) | exact HB.out)⟩
        · rw [if_neg c10] at H
          have c10b0 : (t190 == (decide (a1 > 0))) = false := by simpa using c10
          (try (have c10b1 : decide (t190 = (decide (a1 > 0))) = false := by simpa using c10))
          (try (have c10b2 : (t190 == (decide (a1 > 0))) = false := by simpa using c10))
          (try (have c10b3 : ¬ (t190 = (decide (a1 > 0))) := by simpa using c10))
          clear c10
          obtain rfl := Option.some.inj H
          go_enter Try.func8, Try.ntmps8
          go_wp2_with (first | ((with_reducible refine gate_callee (f := 20) rfl ?_); refine goesL_ (some 12) rfl rfl Try.func20 (by kernel_rfl) rfl #[.pointer none, .int .i64 a0] rfl (by (try simp only [List.map_toArray, List.map_cons, List.map_nil]); first | done | rfl | (simp only [List.length_drop, List.length_take]; rfl)) ?_; (with_reducible refine (budget_Server_Reset_nil0.calls  a0  _ A3.out).mono ?_); rintro e w45 ⟨rfl, hb⟩; refine ⟨_, rfl, ?_⟩; have n0_ := Aside0.mk (below_step (by repeat (first | (with_reducible first | exact HB.out | apply below_alloc | apply pw_below_drewN | apply below_drew1) | exact HB.out)) hb); clear HB; have HB := n0_; clear n0_; (try clear hb); (try clear hb2); (try clear hge); (try clear hk); (try clear hi)) | ((with_reducible refine gate_callee (f := 16) rfl ?_); refine goesL_ (some 17) rfl rfl Try.func16 (by kernel_rfl) rfl #[.pointer none, .int .i64 a0, .int .i64 a1] rfl (by (try simp only [List.map_toArray, List.map_cons, List.map_nil]); first | done | rfl | (simp only [List.length_drop, List.length_take]; rfl)) ?_; (with_reducible refine (budget_Server_Charge_nil0.calls  a0 a1 t189 t190 _ A4.out).mono ?_); rintro e w46 ⟨rfl, hb⟩; refine ⟨_, rfl, ?_⟩; have n0_ := Aside0.mk (below_step (by repeat (first | (with_reducible first | exact HB.out | apply below_alloc | apply pw_below_drewN | apply below_drew1) | exact HB.out)) hb); clear HB; have HB := n0_; clear n0_; (try clear hb); (try clear hb2); (try clear hge); (try clear hk); (try clear hi)) | ((with_reducible refine gate_callee (f := 15) rfl ?_); refine goesL_ (some 21) rfl rfl Try.func15 (by kernel_rfl) rfl #[.int .i64 1, .int .i64 1] rfl (by (try simp only [List.map_toArray, List.map_cons, List.map_nil]); first | done | rfl | (simp only [List.length_drop, List.length_take]; rfl)) ?_; (with_reducible refine (budget_New.calls 1 1 t191 t192 t193 t194 t195 t197 w _ ?side1 A5.out).mono ?_); (case side1 => repeat (first | (with_reducible first | exact HB.out | apply below_alloc | apply pw_below_drewN | apply below_drew1) | exact HB.out)); rintro e w47 ⟨g196, rfl, hi, hb, hb2, hge⟩; refine ⟨_, rfl, ?_⟩; have n0_ := Aside0.mk (hb); have n1_ := Aside0.mk (hi); clear HB; have HB := n0_; have HI196 := n1_; clear n0_ n1_; (try clear hb); (try clear hb2); (try clear hge); (try clear hk); (try clear hi)) | ((with_reducible refine gate_callee (f := 19) rfl ?_); refine goesL_ (some 24) rfl rfl Try.func19 (by kernel_rfl) rfl #[] rfl (by (try simp only [List.map_toArray, List.map_cons, List.map_nil]); first | done | rfl | (simp only [List.length_drop, List.length_take]; rfl)) ?_; (with_reducible refine (monocoquelaw30_known.calls k  true _ A6.out).mono ?_); rintro e w48 ⟨rfl, hb⟩; refine ⟨_, rfl, ?_⟩; have n0_ := Aside0.mk (IsS84.below (by repeat (first | (with_reducible first | exact HI196.out | apply IsS84.alloc | apply IsS84.drewN | apply IsS84.drew | apply IsS84.set_0 | apply IsS84.set_1 | apply IsS84.set_2 | apply IsS84.set_3 | apply IsS84.set_4) | exact HI196.out)) hb); have n1_ := Aside0.mk (below_step (by repeat (first | (with_reducible first | exact HB.out | apply below_alloc | apply pw_below_drewN | apply below_drew1 | refine below_set ?_ (IsS84.ge HI196.out)) | exact HB.out)) hb); clear HI196; clear HB; have HI196 := n0_; have HB := n1_; clear n0_ n1_; (try clear hb); (try clear hb2); (try clear hge); (try clear hk); (try clear hi)))
          go_ret
          exact ⟨by first | rfl | (simp [errW_none, errW_some] <;> rfl) | (simp [*, errW_none, errW_some] <;> rfl), by repeat (first | (with_reducible first | exact HB.out | apply below_alloc | apply pw_below_drewN | apply below_drew1 | refine below_set ?_ (IsS84.ge HI196.out)) | exact HB.out)⟩
      · rw [if_neg c9] at H
        have c9b0 : (t189 == 0) = false := beq_eq_false_iff_ne.mpr c9
        have c9b1 : (t189 != 0) = true := bne_iff_ne.mpr c9
        obtain rfl := Option.some.inj H
        go_enter Try.func8, Try.ntmps8
        go_wp2_with (first | ((with_reducible refine gate_callee (f := 20) rfl ?_); refine goesL_ (some 12) rfl rfl Try.func20 (by kernel_rfl) rfl #[.pointer none, .int .i64 a0] rfl (by (try simp only [List.map_toArray, List.map_cons, List.map_nil]); first | done | rfl | (simp only [List.length_drop, List.length_take]; rfl)) ?_; (with_reducible refine (budget_Server_Reset_nil0.calls  a0  _ A3.out).mono ?_); rintro e w49 ⟨rfl, hb⟩; refine ⟨_, rfl, ?_⟩; have n0_ := Aside0.mk (below_step (by repeat (first | (with_reducible first | exact HB.out | apply below_alloc | apply pw_below_drewN | apply below_drew1) | exact HB.out)) hb); clear HB; have HB := n0_; clear n0_; (try clear hb); (try clear hb2); (try clear hge); (try clear hk); (try clear hi)) | ((with_reducible refine gate_callee (f := 16) rfl ?_); refine goesL_ (some 17) rfl rfl Try.func16 (by kernel_rfl) rfl #[.pointer none, .int .i64 a0, .int .i64 a1] rfl (by (try simp only [List.map_toArray, List.map_cons, List.map_nil]); first | done | rfl | (simp only [List.length_drop, List.length_take]; rfl)) ?_; (with_reducible refine (budget_Server_Charge_nil0.calls  a0 a1 t189 t190 _ A4.out).mono ?_); rintro e w50 ⟨rfl, hb⟩; refine ⟨_, rfl, ?_⟩; have n0_ := Aside0.mk (below_step (by repeat (first | (with_reducible first | exact HB.out | apply below_alloc | apply pw_below_drewN | apply below_drew1) | exact HB.out)) hb); clear HB; have HB := n0_; clear n0_; (try clear hb); (try clear hb2); (try clear hge); (try clear hk); (try clear hi)) | ((with_reducible refine gate_callee (f := 15) rfl ?_); refine goesL_ (some 21) rfl rfl Try.func15 (by kernel_rfl) rfl #[.int .i64 1, .int .i64 1] rfl (by (try simp only [List.map_toArray, List.map_cons, List.map_nil]); first | done | rfl | (simp only [List.length_drop, List.length_take]; rfl)) ?_; (with_reducible refine (budget_New.calls 1 1 t191 t192 t193 t194 t195 t197 w _ ?side1 A5.out).mono ?_); (case side1 => repeat (first | (with_reducible first | exact HB.out | apply below_alloc | apply pw_below_drewN | apply below_drew1) | exact HB.out)); rintro e w51 ⟨g196, rfl, hi, hb, hb2, hge⟩; refine ⟨_, rfl, ?_⟩; have n0_ := Aside0.mk (hb); have n1_ := Aside0.mk (hi); clear HB; have HB := n0_; have HI196 := n1_; clear n0_ n1_; (try clear hb); (try clear hb2); (try clear hge); (try clear hk); (try clear hi)) | ((with_reducible refine gate_callee (f := 19) rfl ?_); refine goesL_ (some 24) rfl rfl Try.func19 (by kernel_rfl) rfl #[] rfl (by (try simp only [List.map_toArray, List.map_cons, List.map_nil]); first | done | rfl | (simp only [List.length_drop, List.length_take]; rfl)) ?_; (with_reducible refine (monocoquelaw30_known.calls k  true _ A6.out).mono ?_); rintro e w52 ⟨rfl, hb⟩; refine ⟨_, rfl, ?_⟩; have n0_ := Aside0.mk (IsS84.below (by repeat (first | (with_reducible first | exact HI196.out | apply IsS84.alloc | apply IsS84.drewN | apply IsS84.drew | apply IsS84.set_0 | apply IsS84.set_1 | apply IsS84.set_2 | apply IsS84.set_3 | apply IsS84.set_4) | exact HI196.out)) hb); have n1_ := Aside0.mk (below_step (by repeat (first | (with_reducible first | exact HB.out | apply below_alloc | apply pw_below_drewN | apply below_drew1 | refine below_set ?_ (IsS84.ge HI196.out)) | exact HB.out)) hb); clear HI196; clear HB; have HI196 := n0_; have HB := n1_; clear n0_ n1_; (try clear hb); (try clear hb2); (try clear hge); (try clear hk); (try clear hi)))
        go_ret
        exact ⟨by first | rfl | (simp [errW_none, errW_some] <;> rfl) | (simp [*, errW_none, errW_some] <;> rfl), by repeat (first | (with_reducible first | exact HB.out | apply below_alloc | apply pw_below_drewN | apply below_drew1 | refine below_set ?_ (IsS84.ge HI196.out)) | exact HB.out)⟩
    · rw [if_neg c8] at H
      have c8b0 : (t197 == 0) = false := beq_eq_false_iff_ne.mpr c8
      have c8b1 : (t197 != 0) = true := bne_iff_ne.mpr c8
      obtain rfl := Option.some.inj H
      go_enter Try.func8, Try.ntmps8
      go_wp2_with (first | ((with_reducible refine gate_callee (f := 20) rfl ?_); refine goesL_ (some 12) rfl rfl Try.func20 (by kernel_rfl) rfl #[.pointer none, .int .i64 a0] rfl (by (try simp only [List.map_toArray, List.map_cons, List.map_nil]); first | done | rfl | (simp only [List.length_drop, List.length_take]; rfl)) ?_; (with_reducible refine (budget_Server_Reset_nil0.calls  a0  _ A3.out).mono ?_); rintro e w53 ⟨rfl, hb⟩; refine ⟨_, rfl, ?_⟩; have n0_ := Aside0.mk (below_step (by repeat (first | (with_reducible first | exact HB.out | apply below_alloc | apply pw_below_drewN | apply below_drew1) | exact HB.out)) hb); clear HB; have HB := n0_; clear n0_; (try clear hb); (try clear hb2); (try clear hge); (try clear hk); (try clear hi)) | ((with_reducible refine gate_callee (f := 16) rfl ?_); refine goesL_ (some 17) rfl rfl Try.func16 (by kernel_rfl) rfl #[.pointer none, .int .i64 a0, .int .i64 a1] rfl (by (try simp only [List.map_toArray, List.map_cons, List.map_nil]); first | done | rfl | (simp only [List.length_drop, List.length_take]; rfl)) ?_; (with_reducible refine (budget_Server_Charge_nil0.calls  a0 a1 t189 t190 _ A4.out).mono ?_); rintro e w54 ⟨rfl, hb⟩; refine ⟨_, rfl, ?_⟩; have n0_ := Aside0.mk (below_step (by repeat (first | (with_reducible first | exact HB.out | apply below_alloc | apply pw_below_drewN | apply below_drew1) | exact HB.out)) hb); clear HB; have HB := n0_; clear n0_; (try clear hb); (try clear hb2); (try clear hge); (try clear hk); (try clear hi)) | ((with_reducible refine gate_callee (f := 15) rfl ?_); refine goesL_ (some 21) rfl rfl Try.func15 (by kernel_rfl) rfl #[.int .i64 1, .int .i64 1] rfl (by (try simp only [List.map_toArray, List.map_cons, List.map_nil]); first | done | rfl | (simp only [List.length_drop, List.length_take]; rfl)) ?_; (with_reducible refine (budget_New.calls 1 1 t191 t192 t193 t194 t195 t197 w _ ?side1 A5.out).mono ?_); (case side1 => repeat (first | (with_reducible first | exact HB.out | apply below_alloc | apply pw_below_drewN | apply below_drew1) | exact HB.out)); rintro e w55 ⟨g196, rfl, hi, hb, hb2, hge⟩; refine ⟨_, rfl, ?_⟩; have n0_ := Aside0.mk (hb); have n1_ := Aside0.mk (hi); clear HB; have HB := n0_; have HI196 := n1_; clear n0_ n1_; (try clear hb); (try clear hb2); (try clear hge); (try clear hk); (try clear hi)) | ((with_reducible refine gate_callee (f := 19) rfl ?_); refine goesL_ (some 24) rfl rfl Try.func19 (by kernel_rfl) rfl #[] rfl (by (try simp only [List.map_toArray, List.map_cons, List.map_nil]); first | done | rfl | (simp only [List.length_drop, List.length_take]; rfl)) ?_; (with_reducible refine (monocoquelaw30_known.calls k  true _ A6.out).mono ?_); rintro e w56 ⟨rfl, hb⟩; refine ⟨_, rfl, ?_⟩; have n0_ := Aside0.mk (IsS84.below (by repeat (first | (with_reducible first | exact HI196.out | apply IsS84.alloc | apply IsS84.drewN | apply IsS84.drew | apply IsS84.set_0 | apply IsS84.set_1 | apply IsS84.set_2 | apply IsS84.set_3 | apply IsS84.set_4) | exact HI196.out)) hb); have n1_ := Aside0.mk (below_step (by repeat (first | (with_reducible first | exact HB.out | apply below_alloc | apply pw_below_drewN | apply below_drew1 | refine below_set ?_ (IsS84.ge HI196.out)) | exact HB.out)) hb); clear HI196; clear HB; have HI196 := n0_; have HB := n1_; clear n0_ n1_; (try clear hb); (try clear hb2); (try clear hge); (try clear hk); (try clear hi)))
      go_ret
      exact ⟨by first | rfl | (simp [errW_none, errW_some] <;> rfl) | (simp [*, errW_none, errW_some] <;> rfl), by repeat (first | (with_reducible first | exact HB.out | apply below_alloc | apply pw_below_drewN | apply below_drew1 | refine below_set ?_ (IsS84.ge HI196.out)) | exact HB.out)⟩
  · replace c7 := Bool.eq_false_iff.mpr c7
    subst c7
    have H1 : (some false) = some r := by rw [if_neg (show ¬ (false = true) by decide)] at H; exact H
    clear H
    have H := H1
    clear H1
    obtain rfl := Option.some.inj H
    go_enter Try.func8, Try.ntmps8
    go_wp2_with (first | ((with_reducible refine gate_callee (f := 20) rfl ?_); refine goesL_ (some 12) rfl rfl Try.func20 (by kernel_rfl) rfl #[.pointer none, .int .i64 a0] rfl (by (try simp only [List.map_toArray, List.map_cons, List.map_nil]); first | done | rfl | (simp only [List.length_drop, List.length_take]; rfl)) ?_; (with_reducible refine (budget_Server_Reset_nil0.calls  a0  _ A3.out).mono ?_); rintro e w57 ⟨rfl, hb⟩; refine ⟨_, rfl, ?_⟩; have n0_ := Aside0.mk (below_step (by repeat (first | (with_reducible first | exact HB.out | apply below_alloc | apply pw_below_drewN | apply below_drew1) | exact HB.out)) hb); clear HB; have HB := n0_; clear n0_; (try clear hb); (try clear hb2); (try clear hge); (try clear hk); (try clear hi)) | ((with_reducible refine gate_callee (f := 16) rfl ?_); refine goesL_ (some 17) rfl rfl Try.func16 (by kernel_rfl) rfl #[.pointer none, .int .i64 a0, .int .i64 a1] rfl (by (try simp only [List.map_toArray, List.map_cons, List.map_nil]); first | done | rfl | (simp only [List.length_drop, List.length_take]; rfl)) ?_; (with_reducible refine (budget_Server_Charge_nil0.calls  a0 a1 t189 t190 _ A4.out).mono ?_); rintro e w58 ⟨rfl, hb⟩; refine ⟨_, rfl, ?_⟩; have n0_ := Aside0.mk (below_step (by repeat (first | (with_reducible first | exact HB.out | apply below_alloc | apply pw_below_drewN | apply below_drew1) | exact HB.out)) hb); clear HB; have HB := n0_; clear n0_; (try clear hb); (try clear hb2); (try clear hge); (try clear hk); (try clear hi)) | ((with_reducible refine gate_callee (f := 15) rfl ?_); refine goesL_ (some 21) rfl rfl Try.func15 (by kernel_rfl) rfl #[.int .i64 1, .int .i64 1] rfl (by (try simp only [List.map_toArray, List.map_cons, List.map_nil]); first | done | rfl | (simp only [List.length_drop, List.length_take]; rfl)) ?_; (with_reducible refine (budget_New.calls 1 1 t191 t192 t193 t194 t195 t197 w _ ?side1 A5.out).mono ?_); (case side1 => repeat (first | (with_reducible first | exact HB.out | apply below_alloc | apply pw_below_drewN | apply below_drew1) | exact HB.out)); rintro e w59 ⟨g196, rfl, hi, hb, hb2, hge⟩; refine ⟨_, rfl, ?_⟩; have n0_ := Aside0.mk (hb); have n1_ := Aside0.mk (hi); clear HB; have HB := n0_; have HI196 := n1_; clear n0_ n1_; (try clear hb); (try clear hb2); (try clear hge); (try clear hk); (try clear hi)) | ((with_reducible refine gate_callee (f := 19) rfl ?_); refine goesL_ (some 24) rfl rfl Try.func19 (by kernel_rfl) rfl #[] rfl (by (try simp only [List.map_toArray, List.map_cons, List.map_nil]); first | done | rfl | (simp only [List.length_drop, List.length_take]; rfl)) ?_; (with_reducible refine (monocoquelaw30_known.calls k  false _ A6.out).mono ?_); rintro e w60 ⟨rfl, hb⟩; refine ⟨_, rfl, ?_⟩; have n0_ := Aside0.mk (IsS84.below (by repeat (first | (with_reducible first | exact HI196.out | apply IsS84.alloc | apply IsS84.drewN | apply IsS84.drew | apply IsS84.set_0 | apply IsS84.set_1 | apply IsS84.set_2 | apply IsS84.set_3 | apply IsS84.set_4) | exact HI196.out)) hb); have n1_ := Aside0.mk (below_step (by repeat (first | (with_reducible first | exact HB.out | apply below_alloc | apply pw_below_drewN | apply below_drew1 | refine below_set ?_ (IsS84.ge HI196.out)) | exact HB.out)) hb); clear HI196; clear HB; have HI196 := n0_; have HB := n1_; clear n0_ n1_; (try clear hb); (try clear hb2); (try clear hge); (try clear hk); (try clear hi)))
    go_ret
    exact ⟨by first | rfl | (simp [errW_none, errW_some] <;> rfl) | (simp [*, errW_none, errW_some] <;> rfl), by repeat (first | (with_reducible first | exact HB.out | apply below_alloc | apply pw_below_drewN | apply below_drew1 | refine below_set ?_ (IsS84.ge HI196.out)) | exact HB.out)⟩

/-- THE ONE PURE STATEMENT of monocoquelaw30_BudgetNil: yours. -/
def monocoquelaw30_BudgetNil.Pure : Prop := ∀ (a0 : Int) (a1 : Int), (Lit.int .i64 a0).wf = true → (Lit.int .i64 a1).wf = true → ∃ k, monocoquelaw30_BudgetNil.f k a0 a1 = some true
theorem monocoquelaw30_BudgetNil.walk (P : monocoquelaw30_BudgetNil.Pure) (a0 : Int) (a1 : Int) (w : World) (w0 : (Lit.int .i64 a0).wf = true) (w1 : (Lit.int .i64 a1).wf = true) :
    Calls Try.prog 8 #[.int .i64 a0, .int .i64 a1] w fun e w' => e = .returned (.bool true) ∧ Below w.heap.size w w' := by
  obtain ⟨k, h⟩ := P a0 a1 w0 w1
  refine (monocoquelaw30_BudgetNil.calls k a0 a1 true w h).mono ?_
  rintro e w' ⟨rfl, hd⟩
  exact ⟨rfl, hd⟩

end Go.Proofs.Ytpabbpcklgipnaa.PBudgetNil
