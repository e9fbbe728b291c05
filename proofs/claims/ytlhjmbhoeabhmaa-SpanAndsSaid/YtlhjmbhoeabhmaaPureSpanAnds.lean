/- The law SpanAnds over numbers: it plays no part which of two or three spans is asked first. -/
import Derived.Test.YtlhjmbhoeabhmaaNum
import Derived.Test.YtlhjmbhoeabhmaaQSpanAndsx3
namespace Go.Proofs.Ytlhjmbhoeabhmaa.PSpanAnds
open Go.RowKit Go.Proofs.YtlhjmbhoeabhmaaW.PrintWords Go.Proofs.YtlhjmbhoeabhmaaW.PrintLast Go.Proofs.Ytlhjmbhoeabhmaa.Num
set_option linter.unusedVariables false
set_option linter.unusedSimpArgs false

theorem speaks_ev : Ev (fun k => monocoquelaw01_speaks.f k) true := Ev.of (fun k => monocoquelaw01_speaks.mono k) (k := 30) (by kernel_rfl)

def beyond (n : Int) : Bool := decide (n > 1152921504606846976) || decide (n < -1152921504606846976)

theorem rd_at {xs : List Int} {i : Int} (h0 : 0 ≤ i) (h1 : i < xs.length) : rd xs i ∈ xs ∧ xs.drop i.toNat = rd xs i :: xs.drop (i + 1).toNat := by
  have hlt : i.toNat < xs.length := by omega
  have er : rd xs i = xs[i.toNat] := by
    unfold rd
    rw [List.getD_eq_getElem?_getD, List.getElem?_eq_getElem hlt]; rfl
  refine ⟨by rw [er]; exact List.getElem_mem hlt, ?_⟩
  rw [List.drop_eq_getElem_cons hlt, er]
  congr 2
  omega

theorem far_l0 : ∀ (d : Nat) (xs : List Int) (i : Int), 0 ≤ i → i + d = xs.length → xs.length ≤ 40 → Ev (fun k => monocoquelaw01_far.l0 k xs (xs.length : Int) i) ((xs.drop i.toNat).any beyond) := by
  intro d
  induction d with
  | zero =>
    intro xs i hi hd hl
    rw [List.drop_eq_nil_of_le (by omega)]
    exact Ev.step (f := fun _ => some false) (fun k => by simp only [monocoquelaw01_far.l0]; rw [if_neg (by omega)]) (Ev.now _)
  | succ d ih =>
    intro xs i hi hd hl
    obtain ⟨_, ed⟩ := rd_at hi (show i < xs.length by omega)
    rw [ed, List.any_cons]
    by_cases c1 : rd xs i > 1152921504606846976
    · rw [show beyond (rd xs i) = true by unfold beyond; rw [decide_eq_true c1]; rfl, Bool.true_or]
      exact Ev.step (f := fun _ => some true) (fun k => by simp only [monocoquelaw01_far.l0]; rw [if_pos (by omega), if_pos hi, if_pos (by omega), if_pos c1]) (Ev.now _)
    by_cases c2 : rd xs i < -1152921504606846976
    · rw [show beyond (rd xs i) = true by unfold beyond; rw [decide_eq_true c2, Bool.or_true], Bool.true_or]
      exact Ev.step (f := fun _ => some true) (fun k => by simp only [monocoquelaw01_far.l0]; rw [if_pos (by omega), if_pos hi, if_pos (by omega), if_neg c1, if_pos c2]) (Ev.now _)
    rw [show beyond (rd xs i) = false by unfold beyond; rw [decide_eq_false c1, decide_eq_false c2]; rfl, Bool.false_or]
    refine Ev.step (fun k => by simp only [monocoquelaw01_far.l0]; rw [if_pos (by omega), if_pos hi, if_pos (by omega), if_neg c1, if_neg c2, wrap_id (x := i + 1) (by omega) (by omega)]) (ih xs (i + 1) (by omega) (by omega) hl)

theorem far_ev (xs : List Int) (hl : xs.length ≤ 40) : Ev (fun k => monocoquelaw01_far.f k xs) (xs.any beyond) := by
  have := far_l0 xs.length xs 0 (by omega) (by omega) hl
  have e : List.drop (Int.toNat 0) xs = xs := rfl
  rw [e] at this
  simpa only [monocoquelaw01_far.f] using this

theorem beyond_false {n : Int} (h : beyond n = false) : -1152921504606846976 ≤ n ∧ n ≤ 1152921504606846976 := by
  unfold beyond at h
  rw [Bool.or_eq_false_iff] at h
  have h1 := of_decide_eq_false h.1
  have h2 := of_decide_eq_false h.2
  omega

def andS (a0 a1 b0 b1 : Int) : Int × Int := if min a1 b1 ≤ max a0 b0 then (0, 0) else (max a0 b0, min a1 b1)
theorem and_some (a0 a1 b0 b1 : Int) : span_Span_And.f a0 a1 b0 b1 = some (andS a0 a1 b0 b1) := by
  unfold span_Span_And.f andS
  rw [show mn a1 b1 = min a1 b1 by unfold mn; omega, show mx a0 b0 = max a0 b0 by unfold mx; omega]
  split <;> rfl

def lenS (p : Int × Int) : Int := if p.2 ≤ p.1 then 0 else p.2 - p.1
def fits (n : Int) : Prop := -1152921504606846976 ≤ n ∧ n ≤ 1152921504606846976

theorem len_some {a b : Int} (ha : fits a) (hb : fits b) : span_Span_Len.f a b = some (lenS (a, b)) := by
  unfold fits at ha hb
  unfold span_Span_Len.f lenS
  by_cases c : b ≤ a
  · rw [if_pos c, if_pos c]
  · rw [if_neg c, if_neg c, wrap_id (by omega) (by omega)]

theorem and_fits {a0 a1 b0 b1 : Int} (h0 : fits a0) (h1 : fits a1) (h2 : fits b0) (h3 : fits b1) : fits (andS a0 a1 b0 b1).1 ∧ fits (andS a0 a1 b0 b1).2 := by
  unfold fits at *
  unfold andS
  split <;> simp only [] <;> omega

theorem and_comm (a0 a1 b0 b1 : Int) : andS a0 a1 b0 b1 = andS b0 b1 a0 a1 := by
  unfold andS
  rw [show min a1 b1 = min b1 a1 by omega, show max a0 b0 = max b0 a0 by omega]

theorem len_and (a0 a1 b0 b1 : Int) : lenS (andS a0 a1 b0 b1) = max 0 (min a1 b1 - max a0 b0) := by
  unfold lenS andS
  split
  · simp only [Int.le_refl, if_true]
    omega
  · rename_i h
    simp only [if_neg h]
    omega

theorem len_plain (a b : Int) : lenS (a, b) = max 0 (b - a) := by
  unfold lenS
  simp only []
  split <;> omega

/-- A span out of two, met with a third one. -/
theorem len_and3 (a0 a1 b0 b1 c0 c1 : Int) : lenS (andS (andS a0 a1 b0 b1).1 (andS a0 a1 b0 b1).2 c0 c1) = max 0 (min (min a1 b1) c1 - max (max a0 b0) c0) := by
  rw [len_and]
  unfold andS
  split <;> simp only [] <;> omega

theorem pure_law (a0 a1 b0 b1 c0 c1 : Int) (w0 : (Lit.int .i64 a0).wf = true) (w1 : (Lit.int .i64 a1).wf = true) (w2 : (Lit.int .i64 b0).wf = true) (w3 : (Lit.int .i64 b1).wf = true) (w4 : (Lit.int .i64 c0).wf = true) (w5 : (Lit.int .i64 c1).wf = true) :
    ∃ k, sA.f k a0 a1 b0 b1 c0 c1 = some true := by
  refine Ev.rounds (g := fun k => sA.f k a0 a1 b0 b1 c0 c1) ?_
  unfold sA.f
  refine Ev.bind speaks_ev ?_
  simp only [if_true]
  refine Ev.bind (far_ev [a0, a1, b0, b1, c0, c1] (by simp)) ?_
  cases hf : [a0, a1, b0, b1, c0, c1].any beyond with
  | true =>
    refine Ev.step (f := fun k => (monocoquelaw01_speaks.f k).bind fun t134 => (some t134)) (fun k => by simp only [sA.j0, if_true]) ?_
    exact Ev.bind speaks_ev (Ev.now _)
  | false =>
    simp only [List.any_cons, List.any_nil, Bool.or_false, Bool.or_eq_false_iff] at hf
    obtain ⟨f0, f1, f2, f3, f4, f5⟩ := hf
    have f0 : fits a0 := beyond_false f0
    have f1 : fits a1 := beyond_false f1
    have f2 : fits b0 := beyond_false f2
    have f3 : fits b1 := beyond_false f3
    have f4 : fits c0 := beyond_false f4
    have f5 : fits c1 := beyond_false f5
    have g1 := and_fits f0 f1 f2 f3
    have g2 := and_fits f0 f1 f0 f1
    have g3 := and_fits g1.1 g1.2 f4 f5
    have g4 := and_fits f2 f3 f4 f5
    have g5 := and_fits f0 f1 g4.1 g4.2
    refine Ev.step (f := fun k => sA.j1 k false a0 a1 b0 b1 c0 c1) (fun k => ?_) ?_
    · simp only [sA.j0]
      rw [if_neg (by decide), and_some, and_some, and_some]
      simp only [Option.bind_some]
      rw [and_comm b0 b1 a0 a1]
      simp only [beq_self_eq_true, Bool.not_true, Bool.or_self, Bool.false_eq_true, if_false]
      rw [len_some g1.1 g1.2, len_some f0 f1, len_some f2 f3, len_some g2.1 g2.2]
      simp only [Option.bind_some]
      have h1 : lenS (andS a0 a1 b0 b1) = max 0 (min a1 b1 - max a0 b0) := len_and ..
      have h2 : lenS (andS a0 a1 a0 a1) = max 0 (min a1 a1 - max a0 a0) := len_and ..
      have h3 := len_plain a0 a1
      have h4 := len_plain b0 b1
      have e : lenS (andS a0 a1 a0 a1) = lenS (a0, a1) := by omega
      rw [if_neg (by rw [show mn (lenS (a0, a1)) (lenS (b0, b1)) = min (lenS (a0, a1)) (lenS (b0, b1)) by unfold mn; omega]; show ¬ lenS (andS a0 a1 b0 b1) > _; omega)]
      show sA.j1 k (lenS (andS a0 a1 a0 a1) != lenS (a0, a1)) a0 a1 b0 b1 c0 c1 = _
      rw [e, bne_self_eq_false]
    · refine Ev.step (f := fun _ => some true) (fun k => ?_) (Ev.now _)
      simp only [sA.j1]
      rw [if_neg (by decide), and_some]
      simp only [Option.bind_some]
      rw [and_some]
      simp only [Option.bind_some]
      rw [len_some g3.1 g3.2, and_some]
      simp only [Option.bind_some]
      rw [and_some]
      simp only [Option.bind_some]
      rw [len_some g5.1 g5.2]
      simp only [Option.bind_some]
      have h1 := len_and3 a0 a1 b0 b1 c0 c1
      have h2 := len_and3 b0 b1 c0 c1 a0 a1
      rw [and_comm (andS b0 b1 c0 c1).1] at h2
      have e : lenS (andS (andS a0 a1 b0 b1).1 (andS a0 a1 b0 b1).2 c0 c1) = lenS (andS a0 a1 (andS b0 b1 c0 c1).1 (andS b0 b1 c0 c1).2) := by omega
      show some (lenS (andS (andS a0 a1 b0 b1).1 (andS a0 a1 b0 b1).2 c0 c1) == lenS (andS a0 a1 (andS b0 b1 c0 c1).1 (andS b0 b1 c0 c1).2)) = some true
      rw [e, beq_self_eq_true]

end Go.Proofs.Ytlhjmbhoeabhmaa.PSpanAnds
