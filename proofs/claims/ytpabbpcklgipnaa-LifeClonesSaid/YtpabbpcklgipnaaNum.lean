/- Plain numbers: Bezout, the Chinese remainder, Euclid's remainder against Go's, wrap64 within bounds. No program in sight. -/
import Derived.Test.YtpabbpcklgipnaaRows
import Derived.RowKit
namespace Go.Proofs.Ytpabbpcklgipnaa.Num
set_option linter.unusedVariables false
set_option linter.unusedSimpArgs false

theorem bezout (a b : Nat) : ∃ x y : Int, ((Nat.gcd a b : Nat) : Int) = a * x + b * y := by
  induction a, b using Nat.gcd.induction with
  | H0 n => exact ⟨0, 1, by simp⟩
  | H1 m n hm ih =>
    obtain ⟨x, y, h⟩ := ih
    refine ⟨y - (n / m : Nat) * x, x, ?_⟩
    rw [Nat.gcd_rec, h]
    have e : (n : Int) = m * ((n / m : Nat) : Int) + ((n % m : Nat) : Int) := by
      have := Nat.div_add_mod n m
      omega
    have e2 : ((n % m : Nat) : Int) = n - m * ((n / m : Nat) : Int) := by omega
    rw [e2]
    grind

theorem bezoutI {a b : Int} (ha : 0 ≤ a) (hb : 0 ≤ b) : ∃ x y : Int, (Int.gcd a b : Int) = a * x + b * y := by
  obtain ⟨x, y, h⟩ := bezout a.natAbs b.natAbs
  refine ⟨x, y, ?_⟩
  have e1 : ((a.natAbs : Nat) : Int) = a := by omega
  have e2 : ((b.natAbs : Nat) : Int) = b := by omega
  rw [e1, e2] at h
  exact h

theorem dvd_gcd_left (a b : Int) : ((Int.gcd a b : Nat) : Int) ∣ a := Int.gcd_dvd_left a b
theorem dvd_gcd_right (a b : Int) : ((Int.gcd a b : Nat) : Int) ∣ b := Int.gcd_dvd_right a b

theorem emod_add_mul {a q e : Int} (he : 0 < e) {u : Int} (h0 : 0 ≤ u) (h1 : u < e) (h : a = e * q + u) : a % e = u := by
  subst h
  rw [Int.add_comm, Int.add_mul_emod_self_left]
  exact Int.emod_eq_of_lt h0 h1

/-- Two that come again, each from its own beginning: a tick from M on, within ea * eb, at which one is u ahead of its beginning, the other v. -/
theorem crt {ea eb fa fb u v M : Int} (hea : 0 < ea) (heb : 0 < eb) (hu0 : 0 ≤ u) (hu : u < ea) (hv0 : 0 ≤ v) (hv : v < eb) (hd : ((Int.gcd ea eb : Nat) : Int) ∣ fb + v - fa - u) :
    ∃ t, M ≤ t ∧ t < M + ea * eb ∧ (t - fa) % ea = u ∧ (t - fb) % eb = v := by
  obtain ⟨x, y, hxy⟩ := bezoutI (Int.le_of_lt hea) (Int.le_of_lt heb)
  obtain ⟨q, hq⟩ := hd
  have hp : 0 < ea * eb := Int.mul_pos hea heb
  let t0 := fa + u + ea * (x * q)
  let t := M + (t0 - M) % (ea * eb)
  have ht : t = t0 - ea * eb * ((t0 - M) / (ea * eb)) := by
    have := Int.mul_ediv_add_emod (t0 - M) (ea * eb)
    simp only [t]
    omega
  refine ⟨t, ?_, ?_, ?_, ?_⟩
  · have := Int.emod_nonneg (t0 - M) (Int.ne_of_gt hp)
    simp only [t]
    omega
  · have := Int.emod_lt_of_pos (t0 - M) hp
    simp only [t]
    omega
  · refine emod_add_mul (q := x * q - eb * ((t0 - M) / (ea * eb))) hea hu0 hu ?_
    rw [ht]
    simp only [t0]
    grind
  · refine emod_add_mul (q := - (y * q) - ea * ((t0 - M) / (ea * eb))) heb hv0 hv ?_
    rw [ht]
    simp only [t0]
    rw [hxy] at hq
    grind

theorem tmod_norm {x g : Int} (hg : 0 < g) : Int.tmod (Int.tmod x g + g) g = x % g := by
  have h0 := Int.lt_tmod_of_pos x hg
  have h1 := Int.tmod_lt_of_pos x hg
  rw [Int.tmod_eq_emod_of_nonneg (by omega), Int.add_emod_right]
  rw [Int.tmod_eq_emod]
  split
  · rw [Int.natCast_zero, Int.sub_zero, Int.emod_emod_of_dvd _ (Int.dvd_refl g)]
  · have : ((g.natAbs : Nat) : Int) = g := by omega
    rw [this, Int.sub_emod_right, Int.emod_emod_of_dvd _ (Int.dvd_refl g)]

theorem tmod_pos {x g : Int} (hx : 0 ≤ x) : Int.tmod x g = x % g := Int.tmod_eq_emod_of_nonneg hx

theorem gcd_step {x y : Int} (hx : 0 ≤ x) (hy : 0 < y) : Int.gcd y (x % y) = Int.gcd x y := by
  have e : (x % y).natAbs = x.natAbs % y.natAbs := by
    have h := Int.natAbs_emod_of_nonneg hx y
    omega
  rw [Int.gcd_comm x y]
  unfold Int.gcd
  rw [e, Nat.gcd_rec (y.natAbs) (x.natAbs)]
  rw [Nat.gcd_comm]

theorem wrap_id {x : Int} (h0 : -9223372036854775808 ≤ x) (h1 : x ≤ 9223372036854775807) : Go.RowKit.wrap64 x = x := by
  unfold Go.RowKit.wrap64
  omega

end Go.Proofs.Ytpabbpcklgipnaa.Num
