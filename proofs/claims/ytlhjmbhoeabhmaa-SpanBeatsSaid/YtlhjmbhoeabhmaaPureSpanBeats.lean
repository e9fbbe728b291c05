/- The law SpanBeats over numbers: beats near the beginning, tick by tick. -/
import Derived.Test.YtlhjmbhoeabhmaaBeatSpanBeats
import Derived.Test.YtlhjmbhoeabhmaaPSpanBeatsx3
import Derived.OpenShut
namespace Go.Proofs.Ytlhjmbhoeabhmaa.PSpanBeats
open Go.RowKit Go.Proofs.YtlhjmbhoeabhmaaW.PrintWords Go.Proofs.YtlhjmbhoeabhmaaW.PrintLast Go.Proofs.Ytlhjmbhoeabhmaa.Num
set_option linter.unusedVariables false
set_option linter.unusedSimpArgs false
set_option linter.unusedSectionVars false

theorem begins_some {f e l t : Int} (he : 0 < e) (hw : -9223372036854775808 ≤ t - f) (hw2 : t - f ≤ 9223372036854775807) : monocoqueref01_Begins.f f e l t = some (decide (f ≤ t ∧ (t - f) % e = 0)) := by
  unfold monocoqueref01_Begins.f
  by_cases c : t ≥ f
  · rw [if_pos c, if_neg (by omega), wrap_id hw hw2, tmod_pos (by omega)]
    congr 1
    by_cases d : (t - f) % e = 0
    · rw [decide_eq_true ⟨by omega, d⟩, d]; rfl
    · rw [decide_eq_false (fun h => d h.2), beq_eq_false_iff_ne.2 d]
  · rw [if_neg c, decide_eq_false (fun h => c h.1)]

theorem at_ref {f e l t : Int} (he : 0 < e) (hw : -9223372036854775808 ≤ t - f) (hw2 : t - f ≤ 9223372036854775807) : monocoqueref01_At.f f e l t = some (atS f e l t) := by
  unfold monocoqueref01_At.f atS
  by_cases c : t ≥ f
  · rw [if_pos c, if_neg (by omega), wrap_id hw hw2, tmod_pos (by omega), decide_eq_true (show f ≤ t from c), Bool.true_and]
  · rw [if_neg c, decide_eq_false (show ¬ f ≤ t from c), Bool.false_and]

theorem at_same {f e l t : Int} (he : 0 < e) : ∃ b, monocoqueref01_At.f f e l t = some b ∧ span_Beat_At.f f e l t = some b := by
  unfold monocoqueref01_At.f span_Beat_At.f
  rw [if_pos (show e > 0 from he)]
  by_cases c : t ≥ f
  · rw [if_pos c, if_neg (by omega)]
    exact ⟨_, rfl, rfl⟩
  · rw [if_neg c]
    exact ⟨_, rfl, rfl⟩

section
variable {f e l a b : Int} (hf : 0 ≤ f) (hf2 : f ≤ 1000) (he : 1 ≤ e) (he2 : e ≤ 60) (hl : 1 ≤ l) (hle : l ≤ e) (ha : -32768 ≤ a) (hb : b ≤ 40000) (hab : a ≤ b)
include hf hf2 he he2 hl hle ha hb hab

theorem l1_ev {m t : Int} (h0 : a ≤ t) (h1 : t < b) (h : Ev (fun k => monocoquelaw01_SpanBeats.l0 k m (t + 1) f e l f e l a b) true) : ∀ (d : Nat) (s : Int), t ≤ s → s + d = nextS f e t → Ev (fun k => monocoquelaw01_SpanBeats.l1 k m t s f e l f e l a b) true := by
  obtain ⟨n1, n2, n3, n4⟩ := next_tells (f := f) (t := t) (show 0 < e by omega)
  have nf := fun s => next_first (f := f) (t := t) (s := s) (show 0 < e by omega)
  have nx := next_ev (l := l) (t := t) he (by omega) hf (by omega) (by omega) (by omega)
  generalize nextS f e t = n at *
  have n5 : n ≤ t + 33800 := by
    rcases n4 with h | h <;> omega
  intro d
  induction d with
  | zero =>
    intro s hs hd
    have : s = n := by omega
    subst this
    refine Ev.step (f := fun k => (span_Beat_Next.f k f e l t).bind fun t138 => (if t138 = s then (monocoquelaw01_SpanBeats.l0 k m (wrap64 (t + 1)) f e l f e l a b) else (some false))) (fun k => ?_) ?_
    · simp only [monocoquelaw01_SpanBeats.l1]
      rw [begins_some (by omega) (by omega) (by omega), decide_eq_true ⟨n2, n3⟩]
      rfl
    · refine Ev.bind nx ?_
      simp only [if_true]
      rw [wrap_id (x := t + 1) (by omega) (by omega)]
      exact h
  | succ d ih =>
    intro s hs hd
    refine Ev.step (f := fun k => monocoquelaw01_SpanBeats.l1 k m t (s + 1) f e l f e l a b) (fun k => ?_) (ih (s + 1) (by omega) (by omega))
    simp only [monocoquelaw01_SpanBeats.l1]
    rw [begins_some (by omega) (by omega) (by omega), decide_eq_false (nf s hs (by omega))]
    simp only [Option.bind_some, Bool.false_eq_true, if_false]
    rw [wrap_id (x := s + 1) (by omega) (by omega), wrap_id (x := t + 40000) (by omega) (by omega), if_neg (by omega)]

theorem l0_ev : ∀ (d : Nat) (t m : Int), a ≤ t → t + d = b → m = belowS f e l t - belowS f e l a → Ev (fun k => monocoquelaw01_SpanBeats.l0 k m t f e l f e l a b) true := by
  intro d
  induction d with
  | zero =>
    intro t m h0 hd hm
    have : t = b := by omega
    subst this
    refine Ev.step (f := fun _ => some true) (fun k => ?_) (Ev.now _)
    simp only [monocoquelaw01_SpanBeats.l0]
    rw [if_neg (by omega), busy_some he (by omega) hl hle hf (by omega) (by omega) (by omega) (by omega) (by omega) hab]
    simp only [Option.bind_some]
    rw [hm, beq_self_eq_true]
  | succ d ih =>
    intro t m h0 hd hm
    have st := below_step (f := f) (t := t) (show 0 < e by omega) (show 0 < l by omega) hle
    have rt := below_two (f := f) (a := a) (b := t) (show 0 < e by omega) (show 0 < l by omega) hle h0
    have j2 : ∀ m', m' = belowS f e l (t + 1) - belowS f e l a → Ev (fun k => monocoquelaw01_SpanBeats.j2 k m' t f e l f e l a b) true := by
      intro m' hm'
      obtain ⟨v, v1, v2⟩ := at_same (f := f) (l := l) (t := t) (show 0 < e by omega)
      have := l1_ev hf hf2 he he2 hl hle ha hb hab h0 (by omega) (ih (t + 1) m' (by omega) (by omega) hm') (nextS f e t - t).toNat t (Int.le_refl _) (by
        have := (next_tells (f := f) (t := t) (show 0 < e by omega)).1
        omega)
      refine Ev.step (f := fun k => monocoquelaw01_SpanBeats.l1 k m' t t f e l f e l a b) (fun k => ?_) this
      simp only [monocoquelaw01_SpanBeats.j2]
      rw [v1, v2]
      simp only [Option.bind_some, bne_self_eq_false, Bool.false_eq_true, if_false]
    cases hat : atS f e l t with
    | true =>
      rw [hat] at st
      simp only [if_true] at st
      refine Ev.step (f := fun k => monocoquelaw01_SpanBeats.j2 k (wrap64 (m + 1)) t f e l f e l a b) (fun k => ?_) (j2 _ ?_)
      · simp only [monocoquelaw01_SpanBeats.l0]
        rw [if_pos (by omega), at_ref (by omega) (by omega) (by omega), hat]
        rfl
      · rw [wrap_id (by omega) (by omega)]
        omega
    | false =>
      rw [hat] at st
      simp only [Bool.false_eq_true, if_false] at st
      refine Ev.step (f := fun k => monocoquelaw01_SpanBeats.j2 k m t f e l f e l a b) (fun k => ?_) (j2 _ (by omega))
      simp only [monocoquelaw01_SpanBeats.l0]
      rw [if_pos (by omega), at_ref (by omega) (by omega) (by omega), hat]
      rfl
end

theorem pure_law (f e l a c t : Int) (w0 : (Lit.int .i64 f).wf = true) (w1 : (Lit.int .i64 e).wf = true) (w2 : (Lit.int .i64 l).wf = true) (w3 : (Lit.int .i16 a).wf = true) (w4 : (Lit.int .u8 c).wf = true) (w5 : (Lit.int .i64 t).wf = true) :
    ∃ k, monocoquelaw01_SpanBeats.f k f e l a c t = some true := by
  have ba := bounds_i16 w3
  have bc := bounds_u8 w4
  refine Ev.rounds (g := fun k => monocoquelaw01_SpanBeats.f k f e l a c t) ?_
  unfold monocoquelaw01_SpanBeats.f
  refine Ev.bind speaks_ev ?_
  have eqc : span_Beat_Check.f f e l = monocoqueref01_Check.f f e l := rfl
  obtain ⟨c1, hc, hc0⟩ := check_some f e l
  simp only [if_true, eqc, hc, Option.bind_some]
  have over : Ev (fun k => monocoquelaw01_SpanBeats.j0 k a c true f e l f e l) true :=
    Ev.step (f := fun _ => some true) (fun k => by simp only [monocoquelaw01_SpanBeats.j0, if_true]) (Ev.now _)
  by_cases z : c1 = 0
  · simp only [if_pos z]
    obtain ⟨a1, a2, a3, a4, a5, a6⟩ := hc0 z
    obtain ⟨v, v1, v2⟩ := at_same (f := f) (l := l) (t := t) (show 0 < e by omega)
    simp only [v1, v2, Option.bind_some, bne_self_eq_false, Bool.false_eq_true, if_false]
    by_cases d1 : e > 60
    · simp only [if_pos d1]
      exact over
    · simp only [if_neg d1]
      by_cases d2 : f > 1000
      · rw [decide_eq_true d2]
        exact over
      · rw [decide_eq_false d2]
        have m0 := Int.emod_nonneg c (show (200 : Int) ≠ 0 by decide)
        have m1 := Int.emod_lt_of_pos c (show (0 : Int) < 200 by decide)
        refine Ev.step (f := fun k => monocoquelaw01_SpanBeats.l0 k 0 a f e l f e l a (a + c % 200)) (fun k => ?_) ?_
        · simp only [monocoquelaw01_SpanBeats.j0]
          rw [if_neg (by decide), wrap_id (x := a) (by omega) (by omega), wrap_id (x := c) (by omega) (by omega), tmod_pos (by omega), wrap_id (by omega) (by omega)]
        · exact l0_ev a1 (by omega) a3 (by omega) a5 a6 (by omega) (by omega) (by omega) (c % 200).toNat a 0 (Int.le_refl _) (by omega) (by omega)
  · simp only [if_neg z]
    exact Ev.now _

end Go.Proofs.Ytlhjmbhoeabhmaa.PSpanBeats
