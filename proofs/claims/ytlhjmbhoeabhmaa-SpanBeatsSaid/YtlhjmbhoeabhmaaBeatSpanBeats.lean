/- What Next, Busy and the chapter's example come to (law SpanBeats). -/
import Derived.Test.YtlhjmbhoeabhmaaBeatNum
import Derived.Test.YtlhjmbhoeabhmaaPSpanBeatsx1
import Derived.Test.YtlhjmbhoeabhmaaPSpanBeatsx2
namespace Go.Proofs.Ytlhjmbhoeabhmaa.PSpanBeats
open Go.RowKit Go.Proofs.YtlhjmbhoeabhmaaW.PrintWords Go.Proofs.YtlhjmbhoeabhmaaW.PrintLast Go.Proofs.Ytlhjmbhoeabhmaa.Num
set_option linter.unusedVariables false
set_option linter.unusedSimpArgs false

theorem speaks_ev : Ev (fun k => monocoquelaw01_speaks.f k) true := Ev.of (fun k => monocoquelaw01_speaks.mono k) (k := 30) (by kernel_rfl)

theorem mx_max (a b : Int) : mx a b = max a b := by unfold mx; omega
theorem mn_min (a b : Int) : mn a b = min a b := by unfold mn; omega

theorem next_ev {f e l t : Int} (he : 1 ≤ e) (he2 : e ≤ 1099511627776) (hf : 0 ≤ f) (hf2 : f ≤ 2199023255552) (ht : -1152921504606846976 ≤ t) (ht2 : t ≤ 1152921504606846976) : Ev (fun k => span_Beat_Next.f k f e l t) (nextS f e t) := by
  unfold span_Beat_Next.f nextS
  by_cases c : t ≤ f
  · simp only [if_pos c]
    exact Ev.step (f := fun _ => some f) (fun k => by simp only [span_Beat_Next.j0, if_true]) (Ev.now _)
  · simp only [if_neg c]
    have h1 := Int.emod_lt_of_pos (t - f) (show 0 < e by omega)
    have h0 := Int.emod_nonneg (t - f) (show e ≠ 0 by omega)
    by_cases c2 : (t - f) % e = 0
    · rw [if_pos c2]
      refine Ev.step (f := fun _ => some t) (fun k => ?_) (Ev.now _)
      simp only [span_Beat_Next.j0]
      rw [if_neg (by simp; omega), if_neg (by omega), wrap_id (x := t - f) (by omega) (by omega), tmod_pos (by omega), if_pos c2]
    · rw [if_neg c2]
      refine Ev.step (f := fun _ => some (t - (t - f) % e + e)) (fun k => ?_) (Ev.now _)
      simp only [span_Beat_Next.j0]
      rw [if_neg (by simp; omega), if_neg (by omega), wrap_id (x := t - f) (by omega) (by omega), tmod_pos (by omega), if_neg c2, wrap_id (x := t - _) (by omega) (by omega), wrap_id (by omega) (by omega)]

theorem below_some {f e l t : Int} (he : 1 ≤ e) (he2 : e ≤ 1099511627776) (hl : 1 ≤ l) (hle : l ≤ e) (hf : 0 ≤ f) (hf2 : f ≤ 2199023255552) (ht : -1152921504606846976 ≤ t) (ht2 : t ≤ 1152921504606846976) : span_Beat_below.f f e l t = some (belowS f e l t) := by
  have hr := below_range (f := f) (t := t) (show 0 < e by omega) (show 0 < l by omega) hle
  unfold span_Beat_below.f
  unfold belowS at hr ⊢
  by_cases c : t ≤ f
  · rw [if_pos c, if_pos c]
  · rw [if_neg c] at hr ⊢
    rw [if_neg (by omega), if_neg (by omega), if_neg c]
    have h1 := Int.emod_lt_of_pos (t - f) (show 0 < e by omega)
    have h0 := Int.emod_nonneg (t - f) (show e ≠ 0 by omega)
    have q0 := Int.ediv_nonneg (show 0 ≤ t - f by omega) (show 0 ≤ e by omega)
    have q1 := Int.ediv_le_self e (show 0 ≤ t - f by omega)
    have q2 : 0 ≤ (t - f) / e * l := Int.mul_nonneg q0 (by omega)
    rw [wrap_id (x := t - f) (by omega) (by omega), tmod_pos (by omega), Int.tdiv_eq_ediv_of_nonneg (by omega), mn_min, wrap_id (x := (t - f) / e) (by omega) (by omega), wrap_id (x := (t - f) / e * l) (by omega) (by omega), wrap_id (by omega) (by omega)]

theorem busy_some {f e l a b : Int} (he : 1 ≤ e) (he2 : e ≤ 1099511627776) (hl : 1 ≤ l) (hle : l ≤ e) (hf : 0 ≤ f) (hf2 : f ≤ 2199023255552) (ha : -1152921504606846976 ≤ a) (ha2 : a ≤ 1152921504606846976) (hb : -1152921504606846976 ≤ b) (hb2 : b ≤ 1152921504606846976) (hab : a ≤ b) :
    span_Beat_Busy.f f e l a b = some (belowS f e l b - belowS f e l a) := by
  unfold span_Beat_Busy.f
  by_cases c : b ≤ a
  · rw [if_pos c, show b = a by omega, Int.sub_self]
  · have ra := below_range (f := f) (t := a) (show 0 < e by omega) (show 0 < l by omega) hle
    have rb := below_range (f := f) (t := b) (show 0 < e by omega) (show 0 < l by omega) hle
    have rab := below_two (f := f) (a := a) (b := b) (show 0 < e by omega) (show 0 < l by omega) hle hab
    rw [if_neg c, below_some he he2 hl hle hf hf2 hb hb2, below_some he he2 hl hle hf hf2 ha ha2]
    simp only [Option.bind_some]
    rw [wrap_id (by omega) (by omega)]

theorem check_some (f e l : Int) : ∃ c, monocoqueref01_Check.f f e l = some c ∧ (c = 0 → 0 ≤ f ∧ f ≤ 1099511627776 ∧ 1 ≤ e ∧ e ≤ 1099511627776 ∧ 1 ≤ l ∧ l ≤ e) := by
  unfold monocoqueref01_Check.f
  by_cases c1 : f < 0
  · exact ⟨2, by rw [if_pos c1], by omega⟩
  rw [if_neg c1]
  by_cases c2 : f > 1099511627776
  · exact ⟨2, by rw [if_pos c2], by omega⟩
  rw [if_neg c2]
  by_cases c3 : e < 1
  · exact ⟨2, by rw [if_pos c3], by omega⟩
  rw [if_neg c3]
  by_cases c4 : e > 1099511627776
  · exact ⟨2, by rw [if_pos c4], by omega⟩
  rw [if_neg c4]
  by_cases c5 : l < 1
  · exact ⟨2, by rw [if_pos c5], by omega⟩
  rw [if_neg c5]
  by_cases c6 : l > e
  · exact ⟨2, by rw [if_pos c6], by omega⟩
  rw [if_neg c6]
  exact ⟨0, rfl, by omega⟩

end Go.Proofs.Ytlhjmbhoeabhmaa.PSpanBeats
