/- The law SpanFar over numbers: what is far is as what is near. -/
import Derived.Test.YtlhjmbhoeabhmaaBeatSpanFar
import Derived.Test.YtlhjmbhoeabhmaaPSpanFarx3
namespace Go.Proofs.Ytlhjmbhoeabhmaa.PSpanFar
open Go.RowKit Go.Proofs.YtlhjmbhoeabhmaaW.PrintWords Go.Proofs.YtlhjmbhoeabhmaaW.PrintLast Go.Proofs.Ytlhjmbhoeabhmaa.Num
set_option linter.unusedVariables false
set_option linter.unusedSimpArgs false
set_option linter.unusedSectionVars false

section
variable {f e l by_ : Int} (hf : 0 ≤ f) (hf2 : f ≤ 1099511627776) (he : 1 ≤ e) (he2 : e ≤ 1099511627776) (hl : 1 ≤ l) (hle : l ≤ e) (hb : 0 ≤ by_) (hb2 : f + by_ ≤ 1099511627776)
include hf hf2 he he2 hl hle hb hb2

theorem j3_ev {a : Int} (ha : -576460752303423488 ≤ a) (ha2 : a ≤ 576460752303423488) : Ev (fun k => monocoquelaw01_SpanFar.j3 k a by_ false f e l f e l (f + by_) e l) true := by
  obtain ⟨n1, n2, n3, n4⟩ := next_tells (f := f) (t := a) (show 0 < e by omega)
  have nx := next_ev (l := l) he he2 hf (by omega) (show -1152921504606846976 ≤ a by omega) (by omega)
  have ny := next_ev (f := f + by_) (t := a + by_) (l := l) he he2 (by omega) (by omega) (show -1152921504606846976 ≤ a + by_ by omega) (by omega)
  rw [next_moved] at ny
  have n5 : nextS f e a ≤ 1152921504606846976 := by
    rcases n4 with h | h <;> omega
  generalize nextS f e a = n at *
  refine Ev.step (fun k => by simp only [monocoquelaw01_SpanFar.j3]; rw [if_neg (by decide)]) ?_
  refine Ev.bind nx ?_
  rw [wrap_id (x := n - f) (by omega) (by omega), tmod_pos (x := n - f) (by omega), wrap_id (x := a + by_) (by omega) (by omega), wrap_id (x := n + by_) (by omega) (by omega), wrap_id (x := n - e) (by omega) (by omega)]
  have yes : Ev (fun k => (span_Beat_Next.f k (f + by_) e l (a + by_)).bind fun t => some (t == n + by_)) true := by
    refine Ev.bind ny ?_
    rw [beq_self_eq_true]
    exact Ev.now _
  refine Ev.congr (f := fun k => (span_Beat_Next.f k (f + by_) e l (a + by_)).bind fun t => some (t == n + by_)) (fun k => ?_) yes
  rw [if_pos n1, if_pos n2, if_neg (by omega), if_pos n3]
  by_cases c : n = f
  · rw [if_pos c]
  · rw [if_neg c, if_pos (by omega)]

theorem j2_ev {a b c : Int} (ha : -576460752303423488 ≤ a) (ha2 : a ≤ 576460752303423488) (hb3 : -576460752303423488 ≤ b) (hb4 : b ≤ 576460752303423488) (hab : a ≤ b) : Ev (fun k => monocoquelaw01_SpanFar.j2 k a b c by_ f e l) true := by
  have hm : a ≤ mn (mx c a) b ∧ mn (mx c a) b ≤ b := by rw [mx_max, mn_min]; omega
  refine Ev.step (fun k => by simp only [monocoquelaw01_SpanFar.j2]; rfl) ?_
  generalize mn (mx c a) b = m at *
  have rab := below_two (f := f) (l := l) (a := a) (b := b) (show 0 < e by omega) (by omega) hle hab
  have ram := below_two (f := f) (l := l) (a := a) (b := m) (show 0 < e by omega) (by omega) hle hm.1
  have rmb := below_two (f := f) (l := l) (a := m) (b := b) (show 0 < e by omega) (by omega) hle hm.2
  rw [wrap_id (x := a + by_) (by omega) (by omega), wrap_id (x := b + by_) (by omega) (by omega), wrap_id (x := f + by_) (by omega) (by omega)]
  rw [busy_some he he2 hl hle hf (by omega) (by omega) (by omega) (by omega) (by omega) hab, busy_some he he2 hl hle hf (by omega) (by omega) (by omega) (by omega) (by omega) hm.1, busy_some he he2 hl hle hf (by omega) (by omega) (by omega) (by omega) (by omega) hm.2,
    busy_some (f := f + by_) (a := a + by_) (b := b + by_) he he2 hl hle (by omega) (by omega) (by omega) (by omega) (by omega) (by omega) (by omega), below_moved, below_moved]
  simp only [Option.bind_some]
  rw [wrap_id (x := belowS f e l m - belowS f e l a + (belowS f e l b - belowS f e l m)) (by omega) (by omega), wrap_id (x := b - a) (by omega) (by omega)]
  refine Ev.congr (f := fun k => monocoquelaw01_SpanFar.j3 k a by_ false f e l f e l (f + by_) e l) (fun k => ?_) (j3_ev hf hf2 he he2 hl hle hb hb2 ha ha2)
  rw [if_pos (by omega), if_neg (by omega), if_neg (by omega), bne_self_eq_false]

theorem all_ev {a b c : Int} : Ev (fun k => monocoquelaw01_SpanFar.j0 k a b c by_ false f e l) true := by
  have big : ∀ (k : Nat) (xs : List Int) (n : Int) (i : Int), i < n → 0 ≤ i → i < xs.length → (rd xs i > 576460752303423488 ∨ rd xs i < -576460752303423488) → monocoquelaw01_SpanFar.l0 (k + 1) a b c by_ xs n i f e l = some true := by
    intro k xs n i h1 h2 h3 h4
    simp only [monocoquelaw01_SpanFar.l0]
    rw [if_pos h1, if_pos h2, if_pos h3]
    by_cases h5 : rd xs i > 576460752303423488
    · rw [if_pos h5]
    · rw [if_neg h5, if_pos (by omega)]
  have small : ∀ (k : Nat) (xs : List Int) (n : Int) (i : Int), i < n → 0 ≤ i → i < xs.length → ¬ (rd xs i > 576460752303423488 ∨ rd xs i < -576460752303423488) → monocoquelaw01_SpanFar.l0 (k + 1) a b c by_ xs n i f e l = monocoquelaw01_SpanFar.l0 k a b c by_ xs n (wrap64 (i + 1)) f e l := by
    intro k xs n i h1 h2 h3 h4
    simp only [monocoquelaw01_SpanFar.l0]
    rw [if_pos h1, if_pos h2, if_pos h3, if_neg (by omega), if_neg (by omega)]
  refine Ev.step (f := fun k => monocoquelaw01_SpanFar.l0 k a b c by_ [a, b, c] 3 0 f e l) (fun k => by simp only [monocoquelaw01_SpanFar.j0]; rw [if_neg (by decide)]; rfl) ?_
  have z1 : wrap64 (0 + 1) = 1 := by unfold wrap64; omega
  have z2 : wrap64 (1 + 1) = 2 := by unfold wrap64; omega
  have z3 : wrap64 (2 + 1) = 3 := by unfold wrap64; omega
  have r0 : rd [a, b, c] 0 = a := rfl
  have r1 : rd [a, b, c] 1 = b := rfl
  have r2 : rd [a, b, c] 2 = c := rfl
  by_cases c0 : a > 576460752303423488 ∨ a < -576460752303423488
  · exact Ev.step (f := fun _ => some true) (fun k => big k [a, b, c] 3 0 (by decide) (by decide) (by simp) (by rw [r0]; exact c0)) (Ev.now _)
  refine Ev.step (f := fun k => monocoquelaw01_SpanFar.l0 k a b c by_ [a, b, c] 3 1 f e l) (fun k => (small k [a, b, c] 3 0 (by decide) (by decide) (by simp) (by rw [r0]; exact c0)).trans (by rw [z1])) ?_
  by_cases c1 : b > 576460752303423488 ∨ b < -576460752303423488
  · exact Ev.step (f := fun _ => some true) (fun k => big k [a, b, c] 3 1 (by decide) (by decide) (by simp) (by rw [r1]; exact c1)) (Ev.now _)
  refine Ev.step (f := fun k => monocoquelaw01_SpanFar.l0 k a b c by_ [a, b, c] 3 2 f e l) (fun k => (small k [a, b, c] 3 1 (by decide) (by decide) (by simp) (by rw [r1]; exact c1)).trans (by rw [z2])) ?_
  by_cases c2 : c > 576460752303423488 ∨ c < -576460752303423488
  · exact Ev.step (f := fun _ => some true) (fun k => big k [a, b, c] 3 2 (by decide) (by decide) (by simp) (by rw [r2]; exact c2)) (Ev.now _)
  refine Ev.step (f := fun k => monocoquelaw01_SpanFar.l0 k a b c by_ [a, b, c] 3 3 f e l) (fun k => (small k [a, b, c] 3 2 (by decide) (by decide) (by simp) (by rw [r2]; exact c2)).trans (by rw [z3])) ?_
  by_cases o : a > b
  · refine Ev.step (f := fun k => monocoquelaw01_SpanFar.j2 k b a c by_ f e l) (fun k => by simp only [monocoquelaw01_SpanFar.l0]; rw [if_neg (by decide), if_pos o]) ?_
    exact j2_ev hf hf2 he he2 hl hle hb hb2 (by omega) (by omega) (by omega) (by omega) (by omega)
  · refine Ev.step (f := fun k => monocoquelaw01_SpanFar.j2 k a b c by_ f e l) (fun k => by simp only [monocoquelaw01_SpanFar.l0]; rw [if_neg (by decide), if_neg o]) ?_
    exact j2_ev hf hf2 he he2 hl hle hb hb2 (by omega) (by omega) (by omega) (by omega) (by omega)
end

theorem pure_law (f e l a b c by_ : Int) (w0 : (Lit.int .i64 f).wf = true) (w1 : (Lit.int .i64 e).wf = true) (w2 : (Lit.int .i64 l).wf = true) (w3 : (Lit.int .i64 a).wf = true) (w4 : (Lit.int .i64 b).wf = true) (w5 : (Lit.int .i64 c).wf = true) (w6 : (Lit.int .i64 by_).wf = true) :
    ∃ k, monocoquelaw01_SpanFar.f k f e l a b c by_ = some true := by
  refine Ev.rounds (g := fun k => monocoquelaw01_SpanFar.f k f e l a b c by_) ?_
  unfold monocoquelaw01_SpanFar.f
  refine Ev.bind speaks_ev ?_
  have far : Ev (fun k => monocoquelaw01_SpanFar.j0 k a b c by_ true f e l) true := by
    refine Ev.step (f := fun k => (monocoquelaw01_speaks.f k).bind fun t122 => (some t122)) (fun k => by simp only [monocoquelaw01_SpanFar.j0, if_true]) ?_
    exact Ev.bind speaks_ev (Ev.now _)
  obtain ⟨c1, hc, hc0⟩ := check_some f e l
  obtain ⟨c2, hc', hc0'⟩ := check_some by_ 1 1
  simp only [if_true, hc, hc', Option.bind_some]
  by_cases z : c1 = 0
  · simp only [if_pos z]
    by_cases z' : c2 = 0
    · simp only [if_pos z']
      obtain ⟨a1, a2, a3, a4, a5, a6⟩ := hc0 z
      obtain ⟨b1, b2, _⟩ := hc0' z'
      rw [wrap_id (x := f + by_) (by omega) (by omega)]
      by_cases o : f + by_ > 1099511627776
      · rw [decide_eq_true o]
        exact far
      · rw [decide_eq_false o]
        exact all_ev a1 a2 a3 a4 a5 a6 b1 (by omega)
    · simp only [if_neg z']
      exact far
  · simp only [if_neg z]
    exact far

end Go.Proofs.Ytlhjmbhoeabhmaa.PSpanFar
