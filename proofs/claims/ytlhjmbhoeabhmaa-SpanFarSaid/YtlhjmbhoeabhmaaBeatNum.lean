/- Beats over plain numbers: how many ticks of a beat are below one, and where its next span begins. No program in sight. -/
import Derived.Test.YtlhjmbhoeabhmaaNum
namespace Go.Proofs.Ytlhjmbhoeabhmaa.Num
set_option linter.unusedVariables false
set_option linter.unusedSimpArgs false

def belowS (f e l t : Int) : Int := if t ≤ f then 0 else (t - f) / e * l + min ((t - f) % e) l
def nextS (f e t : Int) : Int := if t ≤ f then f else if (t - f) % e = 0 then t else t - (t - f) % e + e
def atS (f e l t : Int) : Bool := decide (f ≤ t) && decide ((t - f) % e < l)

theorem succ_div {d e : Int} (he : 0 < e) : ((d + 1) % e = 0 ∧ d % e = e - 1 ∧ (d + 1) / e = d / e + 1) ∨ ((d + 1) % e = d % e + 1 ∧ d % e + 1 < e ∧ (d + 1) / e = d / e) := by
  have h0 := Int.emod_nonneg d (show e ≠ 0 by omega)
  have h1 := Int.emod_lt_of_pos d he
  have h2 := Int.mul_ediv_add_emod d e
  have h3 := Int.emod_nonneg (d + 1) (show e ≠ 0 by omega)
  have h4 := Int.emod_lt_of_pos (d + 1) he
  have h5 := Int.mul_ediv_add_emod (d + 1) e
  by_cases c : d % e + 1 < e
  · right
    have e1 : (d + 1) % e = d % e + 1 := by
      rw [show d + 1 = d % e + 1 + e * (d / e) by omega, Int.add_mul_emod_self_left]
      exact Int.emod_eq_of_lt (by omega) c
    refine ⟨e1, c, ?_⟩
    rw [e1] at h5
    have : e * ((d + 1) / e) = e * (d / e) := by omega
    exact Int.eq_of_mul_eq_mul_left (by omega) this
  · left
    have e1 : (d + 1) % e = 0 := by
      rw [show d + 1 = e * (d / e + 1) by rw [Int.mul_add]; omega]
      exact Int.mul_emod_right e _
    refine ⟨e1, by omega, ?_⟩
    rw [e1] at h5
    have : e * ((d + 1) / e) = e * (d / e + 1) := by rw [Int.mul_add]; omega
    exact Int.eq_of_mul_eq_mul_left (by omega) this

theorem below_step {f e l t : Int} (he : 0 < e) (hl : 0 < l) (hle : l ≤ e) : belowS f e l (t + 1) = belowS f e l t + (if atS f e l t = true then 1 else 0) := by
  unfold belowS atS
  by_cases c : t < f
  · rw [if_pos (by omega), if_pos (by omega), if_neg (by simp; omega)]
    omega
  · have c2 : f ≤ t := by omega
    rw [if_neg (by omega)]
    have e0 : t + 1 - f = (t - f) + 1 := by omega
    rw [e0]
    by_cases c3 : t = f
    · subst c3
      rw [if_pos (by omega)]
      simp only [Int.sub_self, Int.zero_add, Int.zero_emod, Int.le_refl, decide_true, hl, Bool.and_self, if_true]
      rcases succ_div (d := 0) he with ⟨a, b, c⟩ | ⟨a, b, c⟩
      · simp only [Int.zero_add, Int.zero_emod, Int.zero_ediv] at a b c
        rw [a, c]
        have : l = 1 := by omega
        subst this
        decide
      · simp only [Int.zero_add, Int.zero_emod, Int.zero_ediv] at a b c
        rw [a, c]
        omega
    · rw [if_neg (by omega)]
      simp only [c2, decide_true, Bool.true_and, decide_eq_true_eq]
      have h1 := Int.emod_lt_of_pos (t - f) he
      have h0 := Int.emod_nonneg (t - f) (show e ≠ 0 by omega)
      rcases succ_div (d := t - f) he with ⟨a, b, c⟩ | ⟨a, b, c⟩
      · rw [a, c, b, Int.add_mul]
        by_cases k : e - 1 < l
        · rw [if_pos k]; omega
        · rw [if_neg k]; omega
      · rw [a, c]
        by_cases k : (t - f) % e < l
        · rw [if_pos k]; omega
        · rw [if_neg k]; omega

theorem below_grows {f e l : Int} (he : 0 < e) (hl : 0 < l) (hle : l ≤ e) : ∀ (n : Nat) (t : Int), belowS f e l t ≤ belowS f e l (t + n) ∧ belowS f e l (t + n) ≤ belowS f e l t + n := by
  intro n
  induction n with
  | zero => intro t; simp
  | succ n ih =>
    intro t
    have h := ih t
    have s := below_step (f := f) (t := t + n) he hl hle
    rw [show t + ((n + 1 : Nat) : Int) = t + n + 1 by omega, s]
    split <;> omega

theorem below_two {f e l a b : Int} (he : 0 < e) (hl : 0 < l) (hle : l ≤ e) (h : a ≤ b) : belowS f e l a ≤ belowS f e l b ∧ belowS f e l b ≤ belowS f e l a + (b - a) := by
  have := below_grows (f := f) (l := l) he hl hle (b - a).toNat a
  rw [show a + (((b - a).toNat : Nat) : Int) = b by omega] at this
  omega

theorem below_low {f e l t : Int} (h : t ≤ f) : belowS f e l t = 0 := by unfold belowS; rw [if_pos h]

theorem below_range {f e l t : Int} (he : 0 < e) (hl : 0 < l) (hle : l ≤ e) : 0 ≤ belowS f e l t ∧ (f ≤ t → belowS f e l t ≤ t - f) := by
  by_cases c : t ≤ f
  · rw [below_low c]
    omega
  · have := below_two (f := f) (a := f) (b := t) he hl hle (by omega)
    rw [below_low (Int.le_refl f)] at this
    omega

theorem below_moved {f e l t by_ : Int} : belowS (f + by_) e l (t + by_) = belowS f e l t := by
  unfold belowS
  rw [show t + by_ - (f + by_) = t - f by omega]
  by_cases c : t ≤ f
  · rw [if_pos (by omega), if_pos c]
  · rw [if_neg (by omega), if_neg c]

theorem next_tells {f e t : Int} (he : 0 < e) : t ≤ nextS f e t ∧ f ≤ nextS f e t ∧ (nextS f e t - f) % e = 0 ∧ (nextS f e t = f ∨ nextS f e t - e < t) := by
  unfold nextS
  by_cases c : t ≤ f
  · rw [if_pos c]
    exact ⟨c, Int.le_refl _, by simp, .inl rfl⟩
  · rw [if_neg c]
    have h1 := Int.emod_lt_of_pos (t - f) he
    have h0 := Int.emod_nonneg (t - f) (show e ≠ 0 by omega)
    by_cases c2 : (t - f) % e = 0
    · rw [if_pos c2]
      exact ⟨by omega, by omega, c2, .inr (by omega)⟩
    · rw [if_neg c2]
      refine ⟨by omega, by omega, ?_, .inr (by omega)⟩
      have h2 := Int.mul_ediv_add_emod (t - f) e
      rw [show t - (t - f) % e + e - f = e * ((t - f) / e + 1) by rw [Int.mul_add]; omega]
      exact Int.mul_emod_right e _

theorem next_moved {f e t by_ : Int} : nextS (f + by_) e (t + by_) = nextS f e t + by_ := by
  unfold nextS
  rw [show t + by_ - (f + by_) = t - f by omega]
  by_cases c : t ≤ f
  · rw [if_pos (by omega), if_pos c]
  · rw [if_neg (by omega), if_neg c]
    split <;> omega

/-- No span begins ahead of Next. -/
theorem next_first {f e t s : Int} (he : 0 < e) (hs : t ≤ s) (hn : s < nextS f e t) : ¬ (f ≤ s ∧ (s - f) % e = 0) := by
  rintro ⟨h1, h2⟩
  obtain ⟨a, b, c, d⟩ := next_tells (f := f) (t := t) he
  generalize nextS f e t = n at *
  rcases d with d | d
  · omega
  · obtain ⟨p, hp⟩ := Int.dvd_of_emod_eq_zero c
    obtain ⟨q, hq⟩ := Int.dvd_of_emod_eq_zero h2
    have h3 : e * p - e * q < e := by omega
    have h4 : 0 < e * p - e * q := by omega
    rw [← Int.mul_sub] at h3 h4
    have h5 : 0 < p - q := by
      rcases Int.lt_or_le 0 (p - q) with h | h
      · exact h
      · have := Int.mul_le_mul_of_nonneg_left h (Int.le_of_lt he)
        omega
    have := Int.mul_le_mul_of_nonneg_left (show 1 ≤ p - q by omega) (Int.le_of_lt he)
    omega
end Go.Proofs.Ytlhjmbhoeabhmaa.Num
