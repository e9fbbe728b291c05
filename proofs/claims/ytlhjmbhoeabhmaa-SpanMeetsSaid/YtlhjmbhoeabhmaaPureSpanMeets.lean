/- The law SpanMeets over numbers: two beats have a tick in common just if their remainders say so. -/
import Derived.Test.YtlhjmbhoeabhmaaGcdSpanMeets
import Derived.Test.YtlhjmbhoeabhmaaPSpanMeetsx2
namespace Go.Proofs.Ytlhjmbhoeabhmaa.PSpanMeets
open Go.RowKit Go.Proofs.YtlhjmbhoeabhmaaW.PrintWords Go.Proofs.YtlhjmbhoeabhmaaW.PrintLast Go.Proofs.Ytlhjmbhoeabhmaa.Num
set_option linter.unusedVariables false
set_option linter.unusedSimpArgs false

theorem meets_iff {fa ea la fb eb lb M : Int} (hea : 0 < ea) (heb : 0 < eb) (hla : 0 < la) (hla2 : la ≤ ea) (hlb : 0 < lb) (hlb2 : lb ≤ eb) :
    meets fa ea la fb eb lb = true ↔ ∃ t, M ≤ t ∧ t < M + ea * eb ∧ (t - fa) % ea < la ∧ (t - fb) % eb < lb := by
  have g0 : 0 < ((Int.gcd ea eb : Nat) : Int) := by
    have := Int.gcd_pos_of_ne_zero_left eb (show ea ≠ 0 by omega)
    omega
  have hga := dvd_gcd_left ea eb
  have hgb := dvd_gcd_right ea eb
  have hcrt := fun u v => crt (ea := ea) (eb := eb) (fa := fa) (fb := fb) (u := u) (v := v) (M := M) hea heb
  have hga2 := Int.le_of_dvd hea hga
  unfold meets
  generalize hg : ((Int.gcd ea eb : Nat) : Int) = g at g0 hga hgb hcrt hga2 ⊢
  have b0 := Int.emod_nonneg (fb - fa) (show g ≠ 0 by omega)
  have b1 := Int.emod_lt_of_pos (fb - fa) g0
  have b2 := Int.mul_ediv_add_emod (fb - fa) g
  generalize hr : (fb - fa) % g = r at b0 b1 b2
  generalize hq : (fb - fa) / g = q at b2
  simp only [Bool.or_eq_true, decide_eq_true_eq]
  constructor
  · rintro (h | h)
    · obtain ⟨t, h1, h2, h3, h4⟩ := hcrt r 0 b0 (by omega) (by omega) (by omega) ⟨q, by omega⟩
      exact ⟨t, h1, h2, by omega, by omega⟩
    · by_cases hr0 : r = 0
      · obtain ⟨t, h1, h2, h3, h4⟩ := hcrt r 0 b0 (by omega) (by omega) (by omega) ⟨q, by omega⟩
        exact ⟨t, h1, h2, by omega, by omega⟩
      · obtain ⟨t, h1, h2, h3, h4⟩ := hcrt 0 (g - r) (by omega) (by omega) (by omega) (by omega) ⟨q + 1, by rw [Int.mul_add]; omega⟩
        exact ⟨t, h1, h2, by omega, by omega⟩
  · rintro ⟨t, h1, h2, h3, h4⟩
    obtain ⟨p, hp⟩ := hga
    obtain ⟨s, hs⟩ := hgb
    have u0 := Int.emod_nonneg (t - fa) (show ea ≠ 0 by omega)
    have v0 := Int.emod_nonneg (t - fb) (show eb ≠ 0 by omega)
    have u1 := Int.mul_ediv_add_emod (t - fa) ea
    have v1 := Int.mul_ediv_add_emod (t - fb) eb
    generalize (t - fa) % ea = u at *
    generalize (t - fb) % eb = v at *
    generalize (t - fa) / ea = x at *
    generalize (t - fb) / eb = y at *
    have key : u - v = r + g * (q - p * x + s * y) := by
      subst hp; subst hs
      grind
    generalize q - p * x + s * y = z at key
    by_cases hz : z < 0
    · right
      have : g * z ≤ - g := by
        have := Int.mul_le_mul_of_nonneg_left (show z ≤ -1 by omega) (Int.le_of_lt g0)
        omega
      omega
    · left
      have : 0 ≤ g * z := Int.mul_nonneg (by omega) (by omega)
      omega

theorem meets_comm {fa ea la fb eb lb : Int} (hea : 0 < ea) (heb : 0 < eb) (hla : 0 < la) (hla2 : la ≤ ea) (hlb : 0 < lb) (hlb2 : lb ≤ eb) : meets fa ea la fb eb lb = meets fb eb lb fa ea la := by
  rw [Bool.eq_iff_iff, meets_iff (M := 0) hea heb hla hla2 hlb hlb2, meets_iff (M := 0) heb hea hlb hlb2 hla hla2]
  rw [Int.mul_comm eb ea]
  constructor <;> rintro ⟨t, a, b, c, d⟩ <;> exact ⟨t, a, b, d, c⟩

theorem meets_self {fa ea la : Int} (hla : 0 < la) : meets fa ea la fa ea la = true := by
  unfold meets
  simp [hla]

theorem at_some {f e l t : Int} (he : 0 < e) (ht : f ≤ t) (hw : t - f ≤ 9223372036854775807) : monocoqueref01_At.f f e l t = some (decide ((t - f) % e < l)) := by
  unfold monocoqueref01_At.f
  rw [if_pos (by omega), if_neg (by omega), wrap_id (by omega) (by omega), tmod_pos (by omega)]

section
variable {fa ea la fb eb lb : Int} (h1 : 1 ≤ ea) (h2 : ea ≤ 40) (h3 : 1 ≤ eb) (h4 : eb ≤ 40) (h5 : 0 ≤ fa) (h6 : fa ≤ 1000) (h7 : 0 ≤ fb) (h8 : fb ≤ 1000)
include h1 h2 h3 h4 h5 h6 h7 h8
set_option linter.unusedSectionVars false

theorem mul_small : 0 < ea * eb ∧ ea * eb ≤ 1600 := by
  have a := Int.mul_le_mul h2 h4 (by omega) (by omega)
  have b := Int.mul_pos (show 0 < ea by omega) (show 0 < eb by omega)
  omega

theorem loop_ev (M : Int) (hM : M = mx fa fb) : ∀ (d : Nat) (m : Bool) (t : Int), M ≤ t → t + d = M + ea * eb → (m = true → meets fa ea la fb eb lb = true) →
    (m = false → meets fa ea la fb eb lb = true → ∃ s, t ≤ s ∧ s < M + ea * eb ∧ (s - fa) % ea < la ∧ (s - fb) % eb < lb) →
    (∀ s, M ≤ s → s < M + ea * eb → (s - fa) % ea < la → (s - fb) % eb < lb → meets fa ea la fb eb lb = true) →
    Ev (fun k => monocoquelaw01_SpanMeets.l0 k m M t fa ea la fb eb lb fa ea la fb eb lb) true := by
  obtain ⟨p0, p1⟩ := mul_small h1 h2 h3 h4 h5 h6 h7 h8
  have hMa : fa ≤ M ∧ fb ≤ M ∧ M ≤ 1000 := by
    subst hM
    unfold mx
    omega
  have last : ∀ (m : Bool) (t : Int), (m = meets fa ea la fb eb lb) → Ev (fun k => monocoquelaw01_SpanMeets.j4 k m M t false fa ea la fb eb lb fa ea la fb eb lb) true := by
    intro m t hm
    refine Ev.step (f := fun k => (span_Meet.f k fa ea la fb eb lb).bind fun t130 => (some (t130 == m))) (fun k => by simp only [monocoquelaw01_SpanMeets.j4]; rw [if_neg (by decide)]) ?_
    refine Ev.bind (meet_ev h1 (by omega) h3 (by omega) h5 (by omega) h7 (by omega)) ?_
    rw [hm]
    simp only [beq_self_eq_true]
    exact Ev.now _
  intro d
  induction d with
  | zero =>
    intro m t ht hd hm hf hs
    refine Ev.step (f := fun k => monocoquelaw01_SpanMeets.j4 k m M t false fa ea la fb eb lb fa ea la fb eb lb) (fun k => by simp only [monocoquelaw01_SpanMeets.l0]; rw [wrap_id (x := ea * eb) (by omega) (by omega), wrap_id (by omega) (by omega), if_neg (by omega)]) ?_
    refine last m t ?_
    cases m with
    | true => exact (hm rfl).symm
    | false =>
      cases hc : meets fa ea la fb eb lb with
      | false => rfl
      | true =>
        obtain ⟨s, a, b, _⟩ := hf rfl hc
        omega
  | succ d ih =>
    intro m t ht hd hm hf hs
    refine Ev.step (f := fun k => monocoquelaw01_SpanMeets.j4 k m M t (!m) fa ea la fb eb lb fa ea la fb eb lb) (fun k => by simp only [monocoquelaw01_SpanMeets.l0]; rw [wrap_id (x := ea * eb) (by omega) (by omega), wrap_id (by omega) (by omega), if_pos (by omega)]) ?_
    cases m with
    | true => exact last true t (hm rfl).symm
    | false =>
      have go : ∀ (b : Bool), (b = true → (t - fa) % ea < la ∧ (t - fb) % eb < lb) → (b = false → ¬ ((t - fa) % ea < la ∧ (t - fb) % eb < lb)) → Ev (fun k => monocoquelaw01_SpanMeets.l0 k b M (wrap64 (t + 1)) fa ea la fb eb lb fa ea la fb eb lb) true := by
        intro b hb1 hb2
        rw [wrap_id (x := t + 1) (by omega) (by omega)]
        refine ih b (t + 1) (by omega) (by omega) (fun e => hs t ht (by omega) (hb1 e).1 (hb1 e).2) ?_ hs
        intro e hc
        obtain ⟨s, x1, x2, x3, x4⟩ := hf rfl hc
        have : s ≠ t := by
          rintro rfl
          exact hb2 e ⟨x3, x4⟩
        exact ⟨s, by omega, x2, x3, x4⟩
      refine Ev.step (f := fun k => (monocoqueref01_At.f fa ea la t).bind fun t128 => (if t128 = true then ((monocoqueref01_At.f fb eb lb t).bind fun t129 => (monocoquelaw01_SpanMeets.l0 k t129 M (wrap64 (t + 1)) fa ea la fb eb lb fa ea la fb eb lb)) else (monocoquelaw01_SpanMeets.l0 k false M (wrap64 (t + 1)) fa ea la fb eb lb fa ea la fb eb lb))) (fun k => by simp only [monocoquelaw01_SpanMeets.j4]; rw [if_pos (by decide)]) ?_
      rw [at_some (by omega) (by omega) (by omega), at_some (by omega) (by omega) (by omega)]
      simp only [Option.bind_some]
      by_cases ca : (t - fa) % ea < la
      · simp only [ca, decide_true, if_true]
        by_cases cb : (t - fb) % eb < lb
        · simp only [cb, decide_true]
          exact go true (fun _ => ⟨ca, cb⟩) (fun e => by cases e)
        · simp only [cb, decide_false]
          exact go false (fun e => by cases e) (fun _ h => cb h.2)
      · simp only [ca, decide_false, Bool.false_eq_true, if_false]
        exact go false (fun e => by cases e) (fun _ h => ca h.1)
end

theorem check_some (f e l : Int) : ∃ c, monocoqueref01_Check.f f e l = some c ∧ (c = 0 → 0 ≤ f ∧ f ≤ 1099511627776 ∧ 1 ≤ e ∧ e ≤ 1099511627776 ∧ 1 ≤ l ∧ l ≤ e) := by
  unfold monocoqueref01_Check.f
  by_cases c1 : f < 0
  · exact ⟨2, by rw [if_pos c1], by omega⟩
  rw [if_neg c1]
  by_cases c2 : f > 1099511627776
  · exact ⟨2, by rw [if_pos c2], by omega⟩
  rw [if_neg c2]
  by_cases c3 : e < 1
  · exact ⟨2, by rw [if_pos c3], by omega⟩
  rw [if_neg c3]
  by_cases c4 : e > 1099511627776
  · exact ⟨2, by rw [if_pos c4], by omega⟩
  rw [if_neg c4]
  by_cases c5 : l < 1
  · exact ⟨2, by rw [if_pos c5], by omega⟩
  rw [if_neg c5]
  by_cases c6 : l > e
  · exact ⟨2, by rw [if_pos c6], by omega⟩
  rw [if_neg c6]
  exact ⟨0, rfl, by omega⟩

theorem pure_law (fa ea la fb eb lb : Int) (_ : (Lit.int .i64 fa).wf = true) (_ : (Lit.int .i64 ea).wf = true) (_ : (Lit.int .i64 la).wf = true) (_ : (Lit.int .i64 fb).wf = true) (_ : (Lit.int .i64 eb).wf = true) (_ : (Lit.int .i64 lb).wf = true) : ∃ k, monocoquelaw01_SpanMeets.f k fa ea la fb eb lb = some true := by
  refine Ev.rounds (g := fun k => monocoquelaw01_SpanMeets.f k fa ea la fb eb lb) ?_
  unfold monocoquelaw01_SpanMeets.f
  refine Ev.bind speaks_ev ?_
  have far : Ev (fun k => monocoquelaw01_SpanMeets.j0 k true fa ea la fb eb lb) true := by
    refine Ev.step (f := fun k => (monocoquelaw01_speaks.f k).bind fun t122 => (some t122)) (fun k => by simp only [monocoquelaw01_SpanMeets.j0, if_true]) ?_
    exact Ev.bind speaks_ev (Ev.now _)
  obtain ⟨c, hc, hc0⟩ := check_some fa ea la
  obtain ⟨c', hc', hc0'⟩ := check_some fb eb lb
  simp only [if_true, hc, hc', Option.bind_some]
  by_cases z : c = 0
  · rw [show (fun n => if c = 0 then monocoquelaw01_SpanMeets.j0 n (c' != 0) fa ea la fb eb lb else monocoquelaw01_SpanMeets.j0 n true fa ea la fb eb lb) = fun n => monocoquelaw01_SpanMeets.j0 n (c' != 0) fa ea la fb eb lb from funext fun n => if_pos z]
    by_cases z' : c' = 0
    · obtain ⟨a1, a2, a3, a4, a5, a6⟩ := hc0 z
      obtain ⟨b1, b2, b3, b4, b5, b6⟩ := hc0' z'
      rw [z']
      have tail : Ev (fun k => monocoquelaw01_SpanMeets.j1 k false fa ea la fb eb lb fa ea la fb eb lb) true := by
        have over : Ev (fun k => monocoquelaw01_SpanMeets.j2 k true fa ea la fb eb lb fa ea la fb eb lb) true :=
          Ev.step (f := fun k => some true) (fun k => by simp only [monocoquelaw01_SpanMeets.j2, if_true]) (Ev.now _)
        by_cases d1 : ea > 40
        · exact Ev.step (fun k => by simp only [monocoquelaw01_SpanMeets.j1]; rw [if_neg (by decide), if_pos d1]) over
        by_cases d2 : eb > 40
        · exact Ev.step (fun k => by simp only [monocoquelaw01_SpanMeets.j1]; rw [if_neg (by decide), if_neg d1, if_pos d2]) over
        by_cases d3 : fa > 1000
        · exact Ev.step (fun k => by simp only [monocoquelaw01_SpanMeets.j1]; rw [if_neg (by decide), if_neg d1, if_neg d2, if_pos d3]) over
        by_cases d4 : fb > 1000
        · exact Ev.step (fun k => by simp only [monocoquelaw01_SpanMeets.j1]; rw [if_neg (by decide), if_neg d1, if_neg d2, if_neg d3, decide_eq_true d4]) over
        refine Ev.step (f := fun k => monocoquelaw01_SpanMeets.j2 k false fa ea la fb eb lb fa ea la fb eb lb) (fun k => by simp only [monocoquelaw01_SpanMeets.j1]; rw [if_neg (by decide), if_neg d1, if_neg d2, if_neg d3, decide_eq_false d4]) ?_
        refine Ev.step (f := fun k => monocoquelaw01_SpanMeets.l0 k false (mx fa fb) (mx fa fb) fa ea la fb eb lb fa ea la fb eb lb) (fun k => by simp only [monocoquelaw01_SpanMeets.j2]; rw [if_neg (by decide)]) ?_
        have hp := Int.mul_pos (show 0 < ea by omega) (show 0 < eb by omega)
        have iff := meets_iff (fa := fa) (ea := ea) (la := la) (fb := fb) (eb := eb) (lb := lb) (M := mx fa fb) (by omega) (by omega) (by omega) (by omega) (by omega) (by omega)
        refine loop_ev (by omega) (by omega) (by omega) (by omega) (by omega) (by omega) (by omega) (by omega) (mx fa fb) rfl (ea * eb).toNat false (mx fa fb) (by omega) (by omega) (fun e => by cases e) (fun _ h => iff.1 h) ?_
        intro s x1 x2 x3 x4
        exact iff.2 ⟨s, x1, x2, x3, x4⟩
      refine Ev.step (f := fun k => (span_Meet.f k fa ea la fb eb lb).bind fun t125 => ((span_Meet.f k fb eb lb fa ea la).bind fun t126 => (if (t125 != t126) = true then (monocoquelaw01_SpanMeets.j1 k true fa ea la fb eb lb fa ea la fb eb lb) else ((span_Meet.f k fa ea la fa ea la).bind fun t127 => (monocoquelaw01_SpanMeets.j1 k (!t127) fa ea la fb eb lb fa ea la fb eb lb))))) (fun k => by simp only [monocoquelaw01_SpanMeets.j0]; rw [if_neg (by decide)]) ?_
      refine Ev.bind (meet_ev a3 a4 b3 b4 a1 a2 b1 b2) ?_
      refine Ev.bind (meet_ev b3 b4 a3 a4 b1 b2 a1 a2) ?_
      rw [meets_comm (fa := fb) (by omega) (by omega) (by omega) (by omega) (by omega) (by omega)]
      simp only [bne_self_eq_false, Bool.false_eq_true, if_false]
      refine Ev.bind (meet_ev a3 a4 a3 a4 a1 a2 a1 a2) ?_
      rw [meets_self (by omega)]
      exact tail
    · rw [show (c' != 0) = true from bne_iff_ne.mpr z']
      exact far
  · rw [show (fun n => if c = 0 then monocoquelaw01_SpanMeets.j0 n (c' != 0) fa ea la fb eb lb else monocoquelaw01_SpanMeets.j0 n true fa ea la fb eb lb) = fun n => monocoquelaw01_SpanMeets.j0 n true fa ea la fb eb lb from funext fun n => if_neg z]
    exact far

end Go.Proofs.Ytlhjmbhoeabhmaa.PSpanMeets
