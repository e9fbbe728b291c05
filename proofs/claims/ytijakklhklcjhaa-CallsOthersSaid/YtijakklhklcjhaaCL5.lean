/- The law CallsOthers: what its body comes to. -/
import Derived.Test.YtijakklhklcjhaaCP1
namespace Go.Proofs.YtijakklhklcjhaaA
open Go
set_option linter.unusedVariables false
set_option linter.unusedSimpArgs false
set_option maxRecDepth 100000
set_option maxHeartbeats 4000000

theorem back_spec (r0 r1 r2 r3 r4 r5 r6 r7 r8 r9 r10 r11 r12 r13 r14 r15 e v w : Int) : Spec Try.prog 14 [.agg (regA [r0, r1, r2, r3, r4, r5, r6, r7, r8, r9, r10, r11, r12, r13, r14, r15]), .agg [vA (.int .i64 e), vA (.int .u32 v), vA (.int .i64 w)]] [] [] (fun r ob tg => r = .agg (regA [IntKind.u32.wrap e, v, IntKind.u32.wrap w, r3, r4, r5, r6, r7, r8, r9, r10, r11, r12, r13, r14, r15]) ∧ ob = [] ∧ tg = []) := by
  refine Spec.of_run [] [] (cuts := []) hM tys_ok Try.func14 Try.ntmps14 Try.results14 rfl rfl ?_
  repeat (refine Sat.need (by decide) ?_)
  refine Sat.goal ?_
  exact ⟨rfl, rfl, rfl⟩
theorem own14 : Own Try.prog 14 := Own.of Try.func14 rfl rfl

/-- The cells of what is decoded. -/
def decC (n r0 r1 r2 r3 : Int) : List A := [vA (.int .i64 (fld (dOk n r0 r1 r2 r3) n)), vA (.int .i64 (fld (dOk n r0 r1 r2 r3) (fld (bt (cHasN n) 1) (IntKind.i64.wrap r0)))), vA (.int .u32 (fld (dOk n r0 r1 r2 r3) (fld (bt (cHasN n) 2) r1))), vA (.int .i64 (fld (dOk n r0 r1 r2 r3) (fld (bt (cHasN n) 4) (IntKind.i64.wrap r2)))), vA (.int .i64 (fld (dOk n r0 r1 r2 r3) (fld (bt (cHasN n) 8) (longN r3))))]
/-- Registers of which those from the fourth up to the i-th are another's. -/
def mix (i : Nat) (o r : List Int) : List Int := r.take 4 ++ ((o.take i).drop 4 ++ r.drop i)
theorem others_spec (n r0 r1 r2 r3 r4 r5 r6 r7 r8 r9 r10 r11 r12 r13 r14 r15 o0 o1 o2 o3 o4 o5 o6 o7 o8 o9 o10 o11 o12 o13 o14 o15 e v w : Int) : Spec Try.prog 5 [vA (.int .i64 n), .agg (regA [r0, r1, r2, r3, r4, r5, r6, r7, r8, r9, r10, r11, r12, r13, r14, r15]), .agg (regA [o0, o1, o2, o3, o4, o5, o6, o7, o8, o9, o10, o11, o12, o13, o14, o15]), .agg [vA (.int .i64 e), vA (.int .u32 v), vA (.int .i64 w)]] [] [] (fun r ob tg => r = vA (.bool true) ∧ ob = [] ∧ tg = []) := by
  refine Spec.of_run [] [] (cuts := []) hM tys_ok Try.func5 Try.ntmps5 Try.results5 rfl rfl ?_
  refine Sat.loop {i : Nat // 4 ≤ i ∧ i ≤ 16} (fun i => ⟨87, 0, [(10, vA (.int .i64 (i.1 : Int))), (0, vA (.int .i64 n)), (5, .ref 0 0), (6, .ref 1 0), (7, .ref 2 0), (9, .ref 3 0)], [.cells (regA [r0, r1, r2, r3, r4, r5, r6, r7, r8, r9, r10, r11, r12, r13, r14, r15]), .cells (regA [o0, o1, o2, o3, o4, o5, o6, o7, o8, o9, o10, o11, o12, o13, o14, o15]), .cells [vA (.int .i64 e), vA (.int .u32 v), vA (.int .i64 w)], .cells (regA (mix i.1 [o0, o1, o2, o3, o4, o5, o6, o7, o8, o9, o10, o11, o12, o13, o14, o15] [r0, r1, r2, r3, r4, r5, r6, r7, r8, r9, r10, r11, r12, r13, r14, r15]))], []⟩) (fun i => 16 - i.1) ⟨4, by omega, by omega⟩ ?_ ?_
  · refine Weak.go [0, 1, 2, 3] [] rfl rfl rfl rfl rfl rfl rfl rfl ?_ ?_
    · repeat' (first | exact trivial | rfl | constructor)
    · repeat' (first | exact trivial | rfl | constructor)
  · rintro ⟨i, hi⟩
    obtain rfl | rfl | rfl | rfl | rfl | rfl | rfl | rfl | rfl | rfl | rfl | rfl | rfl : i = 4 ∨ i = 5 ∨ i = 6 ∨ i = 7 ∨ i = 8 ∨ i = 9 ∨ i = 10 ∨ i = 11 ∨ i = 12 ∨ i = 13 ∨ i = 14 ∨ i = 15 ∨ i = 16 := by omega
    · refine Sat.yes (by simp) ?_
      refine Sat.need (by simp) ?_
      refine Sat.need (by simp) ?_
      refine Sat.goal ⟨⟨5, by omega, by omega⟩, ?_, by show 16 - 5 < 16 - 4; omega⟩
      refine Weak.go [0, 1, 2, 3] [] rfl rfl rfl rfl rfl rfl rfl rfl ?_ ?_
      · repeat' (first | exact trivial | rfl | constructor)
      · repeat' (first | exact trivial | rfl | constructor)
    · refine Sat.yes (by simp) ?_
      refine Sat.need (by simp) ?_
      refine Sat.need (by simp) ?_
      refine Sat.goal ⟨⟨6, by omega, by omega⟩, ?_, by show 16 - 6 < 16 - 5; omega⟩
      refine Weak.go [0, 1, 2, 3] [] rfl rfl rfl rfl rfl rfl rfl rfl ?_ ?_
      · repeat' (first | exact trivial | rfl | constructor)
      · repeat' (first | exact trivial | rfl | constructor)
    · refine Sat.yes (by simp) ?_
      refine Sat.need (by simp) ?_
      refine Sat.need (by simp) ?_
      refine Sat.goal ⟨⟨7, by omega, by omega⟩, ?_, by show 16 - 7 < 16 - 6; omega⟩
      refine Weak.go [0, 1, 2, 3] [] rfl rfl rfl rfl rfl rfl rfl rfl ?_ ?_
      · repeat' (first | exact trivial | rfl | constructor)
      · repeat' (first | exact trivial | rfl | constructor)
    · refine Sat.yes (by simp) ?_
      refine Sat.need (by simp) ?_
      refine Sat.need (by simp) ?_
      refine Sat.goal ⟨⟨8, by omega, by omega⟩, ?_, by show 16 - 8 < 16 - 7; omega⟩
      refine Weak.go [0, 1, 2, 3] [] rfl rfl rfl rfl rfl rfl rfl rfl ?_ ?_
      · repeat' (first | exact trivial | rfl | constructor)
      · repeat' (first | exact trivial | rfl | constructor)
    · refine Sat.yes (by simp) ?_
      refine Sat.need (by simp) ?_
      refine Sat.need (by simp) ?_
      refine Sat.goal ⟨⟨9, by omega, by omega⟩, ?_, by show 16 - 9 < 16 - 8; omega⟩
      refine Weak.go [0, 1, 2, 3] [] rfl rfl rfl rfl rfl rfl rfl rfl ?_ ?_
      · repeat' (first | exact trivial | rfl | constructor)
      · repeat' (first | exact trivial | rfl | constructor)
    · refine Sat.yes (by simp) ?_
      refine Sat.need (by simp) ?_
      refine Sat.need (by simp) ?_
      refine Sat.goal ⟨⟨10, by omega, by omega⟩, ?_, by show 16 - 10 < 16 - 9; omega⟩
      refine Weak.go [0, 1, 2, 3] [] rfl rfl rfl rfl rfl rfl rfl rfl ?_ ?_
      · repeat' (first | exact trivial | rfl | constructor)
      · repeat' (first | exact trivial | rfl | constructor)
    · refine Sat.yes (by simp) ?_
      refine Sat.need (by simp) ?_
      refine Sat.need (by simp) ?_
      refine Sat.goal ⟨⟨11, by omega, by omega⟩, ?_, by show 16 - 11 < 16 - 10; omega⟩
      refine Weak.go [0, 1, 2, 3] [] rfl rfl rfl rfl rfl rfl rfl rfl ?_ ?_
      · repeat' (first | exact trivial | rfl | constructor)
      · repeat' (first | exact trivial | rfl | constructor)
    · refine Sat.yes (by simp) ?_
      refine Sat.need (by simp) ?_
      refine Sat.need (by simp) ?_
      refine Sat.goal ⟨⟨12, by omega, by omega⟩, ?_, by show 16 - 12 < 16 - 11; omega⟩
      refine Weak.go [0, 1, 2, 3] [] rfl rfl rfl rfl rfl rfl rfl rfl ?_ ?_
      · repeat' (first | exact trivial | rfl | constructor)
      · repeat' (first | exact trivial | rfl | constructor)
    · refine Sat.yes (by simp) ?_
      refine Sat.need (by simp) ?_
      refine Sat.need (by simp) ?_
      refine Sat.goal ⟨⟨13, by omega, by omega⟩, ?_, by show 16 - 13 < 16 - 12; omega⟩
      refine Weak.go [0, 1, 2, 3] [] rfl rfl rfl rfl rfl rfl rfl rfl ?_ ?_
      · repeat' (first | exact trivial | rfl | constructor)
      · repeat' (first | exact trivial | rfl | constructor)
    · refine Sat.yes (by simp) ?_
      refine Sat.need (by simp) ?_
      refine Sat.need (by simp) ?_
      refine Sat.goal ⟨⟨14, by omega, by omega⟩, ?_, by show 16 - 14 < 16 - 13; omega⟩
      refine Weak.go [0, 1, 2, 3] [] rfl rfl rfl rfl rfl rfl rfl rfl ?_ ?_
      · repeat' (first | exact trivial | rfl | constructor)
      · repeat' (first | exact trivial | rfl | constructor)
    · refine Sat.yes (by simp) ?_
      refine Sat.need (by simp) ?_
      refine Sat.need (by simp) ?_
      refine Sat.goal ⟨⟨15, by omega, by omega⟩, ?_, by show 16 - 15 < 16 - 14; omega⟩
      refine Weak.go [0, 1, 2, 3] [] rfl rfl rfl rfl rfl rfl rfl rfl ?_ ?_
      · repeat' (first | exact trivial | rfl | constructor)
      · repeat' (first | exact trivial | rfl | constructor)
    · refine Sat.yes (by simp) ?_
      refine Sat.need (by simp) ?_
      refine Sat.need (by simp) ?_
      refine Sat.goal ⟨⟨16, by omega, by omega⟩, ?_, by show 16 - 16 < 16 - 15; omega⟩
      refine Weak.go [0, 1, 2, 3] [] rfl rfl rfl rfl rfl rfl rfl rfl ?_ ?_
      · repeat' (first | exact trivial | rfl | constructor)
      · repeat' (first | exact trivial | rfl | constructor)
    · refine Sat.no (by simp) ?_
      refine Sat.pure own10 (decode_spec n r0 r1 r2 r3 r4 r5 r6 r7 r8 r9 r10 r11 r12 r13 r14 r15) rfl rfl ?_
      refine Sat.pure own10 (decode_spec n r0 r1 r2 r3 o4 o5 o6 o7 o8 o9 o10 o11 o12 o13 o14 o15) rfl rfl ?_
      refine Sat.pure own14 (back_spec r0 r1 r2 r3 r4 r5 r6 r7 r8 r9 r10 r11 r12 r13 r14 r15 e v w) rfl rfl ?_
      refine Sat.loop {i : Nat // 3 ≤ i ∧ i ≤ 16} (fun i => ⟨87, 0, [(16, vA (.int .i64 (i.1 : Int))), (0, vA (.int .i64 n)), (5, .ref 0 0), (7, .ref 1 0), (11, .ref 2 0), (12, vA (.int .i64 (dErr n r0 r1 r2 r3))), (13, .ref 3 0), (14, vA (.int .i64 (dErr n r0 r1 r2 r3))), (15, .ref 4 0)], [.cells (regA [r0, r1, r2, r3, r4, r5, r6, r7, r8, r9, r10, r11, r12, r13, r14, r15]), .cells [vA (.int .i64 e), vA (.int .u32 v), vA (.int .i64 w)], .cells (decC n r0 r1 r2 r3), .cells (decC n r0 r1 r2 r3), .cells (regA [IntKind.u32.wrap e, v, IntKind.u32.wrap w, r3, r4, r5, r6, r7, r8, r9, r10, r11, r12, r13, r14, r15])], []⟩) (fun i => 16 - i.1) ⟨3, by omega, by omega⟩ ?_ ?_
      · refine Weak.go [0, 2, 4, 5, 6] [] rfl rfl rfl rfl rfl rfl rfl rfl ?_ ?_
        · repeat' (first | exact trivial | rfl | constructor)
        · repeat' (first | exact trivial | rfl | constructor)
      · rintro ⟨i, hi⟩
        obtain rfl | rfl | rfl | rfl | rfl | rfl | rfl | rfl | rfl | rfl | rfl | rfl | rfl | rfl : i = 3 ∨ i = 4 ∨ i = 5 ∨ i = 6 ∨ i = 7 ∨ i = 8 ∨ i = 9 ∨ i = 10 ∨ i = 11 ∨ i = 12 ∨ i = 13 ∨ i = 14 ∨ i = 15 ∨ i = 16 := by omega
        · refine Sat.yes (by simp) ?_
          refine Sat.need (by simp) ?_
          refine Sat.need (by simp) ?_
          refine Sat.no (by simp) ?_
          refine Sat.goal ⟨⟨4, by omega, by omega⟩, ?_, by show 16 - 4 < 16 - 3; omega⟩
          refine Weak.go [0, 1, 2, 3, 4] [] rfl rfl rfl rfl rfl rfl rfl rfl ?_ ?_
          · repeat' (first | exact trivial | rfl | constructor)
          · repeat' (first | exact trivial | rfl | constructor)
        · refine Sat.yes (by simp) ?_
          refine Sat.need (by simp) ?_
          refine Sat.need (by simp) ?_
          refine Sat.no (by simp) ?_
          refine Sat.goal ⟨⟨5, by omega, by omega⟩, ?_, by show 16 - 5 < 16 - 4; omega⟩
          refine Weak.go [0, 1, 2, 3, 4] [] rfl rfl rfl rfl rfl rfl rfl rfl ?_ ?_
          · repeat' (first | exact trivial | rfl | constructor)
          · repeat' (first | exact trivial | rfl | constructor)
        · refine Sat.yes (by simp) ?_
          refine Sat.need (by simp) ?_
          refine Sat.need (by simp) ?_
          refine Sat.no (by simp) ?_
          refine Sat.goal ⟨⟨6, by omega, by omega⟩, ?_, by show 16 - 6 < 16 - 5; omega⟩
          refine Weak.go [0, 1, 2, 3, 4] [] rfl rfl rfl rfl rfl rfl rfl rfl ?_ ?_
          · repeat' (first | exact trivial | rfl | constructor)
          · repeat' (first | exact trivial | rfl | constructor)
        · refine Sat.yes (by simp) ?_
          refine Sat.need (by simp) ?_
          refine Sat.need (by simp) ?_
          refine Sat.no (by simp) ?_
          refine Sat.goal ⟨⟨7, by omega, by omega⟩, ?_, by show 16 - 7 < 16 - 6; omega⟩
          refine Weak.go [0, 1, 2, 3, 4] [] rfl rfl rfl rfl rfl rfl rfl rfl ?_ ?_
          · repeat' (first | exact trivial | rfl | constructor)
          · repeat' (first | exact trivial | rfl | constructor)
        · refine Sat.yes (by simp) ?_
          refine Sat.need (by simp) ?_
          refine Sat.need (by simp) ?_
          refine Sat.no (by simp) ?_
          refine Sat.goal ⟨⟨8, by omega, by omega⟩, ?_, by show 16 - 8 < 16 - 7; omega⟩
          refine Weak.go [0, 1, 2, 3, 4] [] rfl rfl rfl rfl rfl rfl rfl rfl ?_ ?_
          · repeat' (first | exact trivial | rfl | constructor)
          · repeat' (first | exact trivial | rfl | constructor)
        · refine Sat.yes (by simp) ?_
          refine Sat.need (by simp) ?_
          refine Sat.need (by simp) ?_
          refine Sat.no (by simp) ?_
          refine Sat.goal ⟨⟨9, by omega, by omega⟩, ?_, by show 16 - 9 < 16 - 8; omega⟩
          refine Weak.go [0, 1, 2, 3, 4] [] rfl rfl rfl rfl rfl rfl rfl rfl ?_ ?_
          · repeat' (first | exact trivial | rfl | constructor)
          · repeat' (first | exact trivial | rfl | constructor)
        · refine Sat.yes (by simp) ?_
          refine Sat.need (by simp) ?_
          refine Sat.need (by simp) ?_
          refine Sat.no (by simp) ?_
          refine Sat.goal ⟨⟨10, by omega, by omega⟩, ?_, by show 16 - 10 < 16 - 9; omega⟩
          refine Weak.go [0, 1, 2, 3, 4] [] rfl rfl rfl rfl rfl rfl rfl rfl ?_ ?_
          · repeat' (first | exact trivial | rfl | constructor)
          · repeat' (first | exact trivial | rfl | constructor)
        · refine Sat.yes (by simp) ?_
          refine Sat.need (by simp) ?_
          refine Sat.need (by simp) ?_
          refine Sat.no (by simp) ?_
          refine Sat.goal ⟨⟨11, by omega, by omega⟩, ?_, by show 16 - 11 < 16 - 10; omega⟩
          refine Weak.go [0, 1, 2, 3, 4] [] rfl rfl rfl rfl rfl rfl rfl rfl ?_ ?_
          · repeat' (first | exact trivial | rfl | constructor)
          · repeat' (first | exact trivial | rfl | constructor)
        · refine Sat.yes (by simp) ?_
          refine Sat.need (by simp) ?_
          refine Sat.need (by simp) ?_
          refine Sat.no (by simp) ?_
          refine Sat.goal ⟨⟨12, by omega, by omega⟩, ?_, by show 16 - 12 < 16 - 11; omega⟩
          refine Weak.go [0, 1, 2, 3, 4] [] rfl rfl rfl rfl rfl rfl rfl rfl ?_ ?_
          · repeat' (first | exact trivial | rfl | constructor)
          · repeat' (first | exact trivial | rfl | constructor)
        · refine Sat.yes (by simp) ?_
          refine Sat.need (by simp) ?_
          refine Sat.need (by simp) ?_
          refine Sat.no (by simp) ?_
          refine Sat.goal ⟨⟨13, by omega, by omega⟩, ?_, by show 16 - 13 < 16 - 12; omega⟩
          refine Weak.go [0, 1, 2, 3, 4] [] rfl rfl rfl rfl rfl rfl rfl rfl ?_ ?_
          · repeat' (first | exact trivial | rfl | constructor)
          · repeat' (first | exact trivial | rfl | constructor)
        · refine Sat.yes (by simp) ?_
          refine Sat.need (by simp) ?_
          refine Sat.need (by simp) ?_
          refine Sat.no (by simp) ?_
          refine Sat.goal ⟨⟨14, by omega, by omega⟩, ?_, by show 16 - 14 < 16 - 13; omega⟩
          refine Weak.go [0, 1, 2, 3, 4] [] rfl rfl rfl rfl rfl rfl rfl rfl ?_ ?_
          · repeat' (first | exact trivial | rfl | constructor)
          · repeat' (first | exact trivial | rfl | constructor)
        · refine Sat.yes (by simp) ?_
          refine Sat.need (by simp) ?_
          refine Sat.need (by simp) ?_
          refine Sat.no (by simp) ?_
          refine Sat.goal ⟨⟨15, by omega, by omega⟩, ?_, by show 16 - 15 < 16 - 14; omega⟩
          refine Weak.go [0, 1, 2, 3, 4] [] rfl rfl rfl rfl rfl rfl rfl rfl ?_ ?_
          · repeat' (first | exact trivial | rfl | constructor)
          · repeat' (first | exact trivial | rfl | constructor)
        · refine Sat.yes (by simp) ?_
          refine Sat.need (by simp) ?_
          refine Sat.need (by simp) ?_
          refine Sat.no (by simp) ?_
          refine Sat.goal ⟨⟨16, by omega, by omega⟩, ?_, by show 16 - 16 < 16 - 15; omega⟩
          refine Weak.go [0, 1, 2, 3, 4] [] rfl rfl rfl rfl rfl rfl rfl rfl ?_ ?_
          · repeat' (first | exact trivial | rfl | constructor)
          · repeat' (first | exact trivial | rfl | constructor)
        · refine Sat.no (by simp) ?_
          refine Sat.pure own11 known_spec rfl rfl ?_
          repeat' (first | refine Sat.need (by simp) ?_ | (refine Sat.split ?_ ?_ <;> intro h <;> first | contradiction | (exfalso; simp at h; done) | skip))
          all_goals (refine Sat.goal ?_; refine ⟨?_, rfl, rfl⟩)
          all_goals simp [vA]
end Go.Proofs.YtijakklhklcjhaaA
