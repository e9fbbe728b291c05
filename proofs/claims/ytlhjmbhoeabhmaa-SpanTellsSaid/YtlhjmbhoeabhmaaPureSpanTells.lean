/- The law SpanTells over numbers: how many ticks a span has, which are its own, and which two have in common. -/
import Derived.Test.YtlhjmbhoeabhmaaNum
import Derived.Test.YtlhjmbhoeabhmaaQSpanTellsx4
namespace Go.Proofs.Ytlhjmbhoeabhmaa.PSpanTells
open Go.RowKit Go.Proofs.YtlhjmbhoeabhmaaW.PrintWords Go.Proofs.YtlhjmbhoeabhmaaW.PrintLast Go.Proofs.Ytlhjmbhoeabhmaa.Num
set_option linter.unusedVariables false
set_option linter.unusedSimpArgs false

theorem speaks_ev : Ev (fun k => monocoquelaw01_speaks.f k) true := Ev.of (fun k => monocoquelaw01_speaks.mono k) (k := 30) (by kernel_rfl)

def beyond (n : Int) : Bool := decide (n > 1152921504606846976) || decide (n < -1152921504606846976)

theorem rd_at {xs : List Int} {i : Int} (h0 : 0 ≤ i) (h1 : i < xs.length) : rd xs i ∈ xs ∧ xs.drop i.toNat = rd xs i :: xs.drop (i + 1).toNat := by
  have hlt : i.toNat < xs.length := by omega
  have er : rd xs i = xs[i.toNat] := by
    unfold rd
    rw [List.getD_eq_getElem?_getD, List.getElem?_eq_getElem hlt]; rfl
  refine ⟨by rw [er]; exact List.getElem_mem hlt, ?_⟩
  rw [List.drop_eq_getElem_cons hlt, er]
  congr 2
  omega

theorem far_l0 : ∀ (d : Nat) (xs : List Int) (i : Int), 0 ≤ i → i + d = xs.length → xs.length ≤ 40 → Ev (fun k => monocoquelaw01_far.l0 k xs (xs.length : Int) i) ((xs.drop i.toNat).any beyond) := by
  intro d
  induction d with
  | zero =>
    intro xs i hi hd hl
    rw [List.drop_eq_nil_of_le (by omega)]
    exact Ev.step (f := fun _ => some false) (fun k => by simp only [monocoquelaw01_far.l0]; rw [if_neg (by omega)]) (Ev.now _)
  | succ d ih =>
    intro xs i hi hd hl
    obtain ⟨_, ed⟩ := rd_at hi (show i < xs.length by omega)
    rw [ed, List.any_cons]
    by_cases c1 : rd xs i > 1152921504606846976
    · rw [show beyond (rd xs i) = true by unfold beyond; rw [decide_eq_true c1]; rfl, Bool.true_or]
      exact Ev.step (f := fun _ => some true) (fun k => by simp only [monocoquelaw01_far.l0]; rw [if_pos (by omega), if_pos hi, if_pos (by omega), if_pos c1]) (Ev.now _)
    by_cases c2 : rd xs i < -1152921504606846976
    · rw [show beyond (rd xs i) = true by unfold beyond; rw [decide_eq_true c2, Bool.or_true], Bool.true_or]
      exact Ev.step (f := fun _ => some true) (fun k => by simp only [monocoquelaw01_far.l0]; rw [if_pos (by omega), if_pos hi, if_pos (by omega), if_neg c1, if_pos c2]) (Ev.now _)
    rw [show beyond (rd xs i) = false by unfold beyond; rw [decide_eq_false c1, decide_eq_false c2]; rfl, Bool.false_or]
    refine Ev.step (fun k => by simp only [monocoquelaw01_far.l0]; rw [if_pos (by omega), if_pos hi, if_pos (by omega), if_neg c1, if_neg c2, wrap_id (x := i + 1) (by omega) (by omega)]) (ih xs (i + 1) (by omega) (by omega) hl)

theorem far_ev (xs : List Int) (hl : xs.length ≤ 40) : Ev (fun k => monocoquelaw01_far.f k xs) (xs.any beyond) := by
  have := far_l0 xs.length xs 0 (by omega) (by omega) hl
  have e : List.drop (Int.toNat 0) xs = xs := rfl
  rw [e] at this
  simpa only [monocoquelaw01_far.f] using this

theorem beyond_false {n : Int} (h : beyond n = false) : -1152921504606846976 ≤ n ∧ n ≤ 1152921504606846976 := by
  unfold beyond at h
  rw [Bool.or_eq_false_iff] at h
  have h1 := of_decide_eq_false h.1
  have h2 := of_decide_eq_false h.2
  omega

def andS (a0 a1 b0 b1 : Int) : Int × Int := if min a1 b1 ≤ max a0 b0 then (0, 0) else (max a0 b0, min a1 b1)
def hasS (a0 a1 t : Int) : Bool := decide (a0 ≤ t) && decide (t < a1)

theorem and_some (a0 a1 b0 b1 : Int) : span_Span_And.f a0 a1 b0 b1 = some (andS a0 a1 b0 b1) := by
  unfold span_Span_And.f andS
  rw [show mn a1 b1 = min a1 b1 by unfold mn; omega, show mx a0 b0 = max a0 b0 by unfold mx; omega]
  split <;> rfl

theorem rand_j0 (k : Nat) (a0 a1 b0 b1 f : Int) (h : f = max a0 b0) : monocoqueref01_And.j0 (k + 1) b0 b1 f a1 = some (andS a0 a1 b0 b1) := by
  simp only [monocoqueref01_And.j0]
  unfold andS
  subst h
  by_cases c : b1 < a1
  · rw [if_pos c, show min a1 b1 = b1 by omega]
    split <;> rfl
  · rw [if_neg c, show min a1 b1 = a1 by omega]
    split <;> rfl

theorem rand_ev (a0 a1 b0 b1 : Int) : Ev (fun k => monocoqueref01_And.f k a0 a1 b0 b1) (andS a0 a1 b0 b1) := by
  refine Ev.step (f := fun _ => some (andS a0 a1 b0 b1)) (fun k => ?_) (Ev.now _)
  unfold monocoqueref01_And.f
  by_cases c : b0 > a0
  · rw [if_pos c]
    exact rand_j0 k a0 a1 b0 b1 b0 (by omega)
  · rw [if_neg c]
    exact rand_j0 k a0 a1 b0 b1 a0 (by omega)

theorem has_some (a0 a1 t : Int) : span_Span_Has.f a0 a1 t = some (hasS a0 a1 t) := by
  unfold span_Span_Has.f hasS
  by_cases c : a0 ≤ t
  · rw [if_pos c, decide_eq_true c, Bool.true_and]
  · rw [if_neg c, decide_eq_false c, Bool.false_and]
theorem rhas_some (a0 a1 t : Int) : monocoqueref01_Has.f a0 a1 t = some (hasS a0 a1 t) := by
  unfold monocoqueref01_Has.f hasS
  by_cases c : t ≥ a0
  · rw [if_pos c, decide_eq_true (show a0 ≤ t from c), Bool.true_and]
  · rw [if_neg c, decide_eq_false (show ¬ a0 ≤ t from c), Bool.false_and]

theorem has_and (a0 a1 b0 b1 t : Int) : hasS (andS a0 a1 b0 b1).1 (andS a0 a1 b0 b1).2 t = (hasS a0 a1 t && hasS b0 b1 t) := by
  rw [Bool.eq_iff_iff]
  unfold hasS andS
  simp only [Bool.and_eq_true, decide_eq_true_eq]
  split <;> simp only [] <;> omega

theorem loop_ev (a0 a1 b0 b1 : Int) : ∀ (d : Nat) (xs : List Int) (i : Int), 0 ≤ i → i + d = xs.length → xs.length ≤ 40 → Ev (fun k => monocoquelaw01_SpanTells.l0 k xs (xs.length : Int) i a0 a1 b0 b1 a0 a1 b0 b1) true := by
  intro d
  induction d with
  | zero =>
    intro xs i hi hd hl
    exact Ev.step (f := fun _ => some true) (fun k => by simp only [monocoquelaw01_SpanTells.l0]; rw [if_neg (by omega)]) (Ev.now _)
  | succ d ih =>
    intro xs i hi hd hl
    refine Ev.step (f := fun k => monocoquelaw01_SpanTells.l0 k xs (xs.length : Int) (i + 1) a0 a1 b0 b1 a0 a1 b0 b1) (fun k => ?_) (ih xs (i + 1) (by omega) (by omega) hl)
    simp only [monocoquelaw01_SpanTells.l0]
    rw [if_pos (by omega), if_pos hi, if_pos (by omega), wrap_id (x := i + 1) (by omega) (by omega)]
    rw [has_some, rhas_some, and_some, rhas_some]
    simp only [Option.bind_some, bne_self_eq_false, Bool.false_eq_true, if_false]
    rw [has_some, has_and]
    simp only [Option.bind_some]
    cases hasS a0 a1 (rd xs i) with
    | true => simp
    | false => simp

theorem pure_law (a0 a1 b0 b1 t : Int) (w0 : (Lit.int .i64 a0).wf = true) (w1 : (Lit.int .i64 a1).wf = true) (w2 : (Lit.int .i64 b0).wf = true) (w3 : (Lit.int .i64 b1).wf = true) (w4 : (Lit.int .i64 t).wf = true) :
    ∃ k, monocoquelaw01_SpanTells.f k a0 a1 b0 b1 t = some true := by
  refine Ev.rounds (g := fun k => monocoquelaw01_SpanTells.f k a0 a1 b0 b1 t) ?_
  unfold monocoquelaw01_SpanTells.f
  refine Ev.bind speaks_ev ?_
  simp only [if_true]
  refine Ev.bind (far_ev [a0, a1, b0, b1] (by simp)) ?_
  cases hf : [a0, a1, b0, b1].any beyond with
  | true =>
    refine Ev.step (f := fun k => (monocoquelaw01_speaks.f k).bind fun t134 => (some t134)) (fun k => by simp only [monocoquelaw01_SpanTells.j0, if_true]) ?_
    exact Ev.bind speaks_ev (Ev.now _)
  | false =>
    simp only [List.any_cons, List.any_nil, Bool.or_false, Bool.or_eq_false_iff] at hf
    obtain ⟨f0, f1, f2, f3⟩ := hf
    have f0 := beyond_false f0
    have f1 := beyond_false f1
    have f2 := beyond_false f2
    have f3 := beyond_false f3
    have len : span_Span_Len.f a0 a1 = some (mx (wrap64 (a1 - a0)) 0) := by
      unfold span_Span_Len.f
      rw [wrap_id (x := a1 - a0) (by omega) (by omega)]
      unfold mx
      by_cases c : a1 ≤ a0
      · rw [if_pos c]
        congr 1
        omega
      · rw [if_neg c]
        congr 1
        omega
    refine Ev.step (f := fun k => (monocoqueref01_And.f k a0 a1 b0 b1).bind fun bt140 => (monocoquelaw01_SpanTells.j1 k t (!((andS a0 a1 b0 b1).1 == bt140.1) || (!((andS a0 a1 b0 b1).2 == bt140.2))) a0 a1 b0 b1 a0 a1 b0 b1)) (fun k => ?_) ?_
    · simp only [monocoquelaw01_SpanTells.j0]
      rw [if_neg (by decide), len]
      simp only [Option.bind_some, if_true]
      rw [and_some]
      rfl
    · refine Ev.bind (rand_ev a0 a1 b0 b1) ?_
      simp only [beq_self_eq_true, Bool.not_true, Bool.or_self]
      refine Ev.step (f := fun k => monocoquelaw01_SpanTells.l0 k [t, a0, a1, wrap64 (a0 - 1), wrap64 (a1 - 1), b0, wrap64 (b1 - 1)] (([t, a0, a1, wrap64 (a0 - 1), wrap64 (a1 - 1), b0, wrap64 (b1 - 1)].length : Nat) : Int) 0 a0 a1 b0 b1 a0 a1 b0 b1) (fun k => ?_) (loop_ev a0 a1 b0 b1 7 _ 0 (by decide) (by simp) (by simp))
      simp only [monocoquelaw01_SpanTells.j1]
      rw [if_neg (by decide)]
      rfl

end Go.Proofs.Ytlhjmbhoeabhmaa.PSpanTells
