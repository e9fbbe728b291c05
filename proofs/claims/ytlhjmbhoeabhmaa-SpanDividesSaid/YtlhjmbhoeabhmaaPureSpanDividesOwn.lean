/- The law SpanDivides over numbers: the greatest divisor and the least multiple, as the document has them. -/
import Derived.Test.YtlhjmbhoeabhmaaGcdSpanDivides
import Derived.Test.YtlhjmbhoeabhmaaQSpanDividesx2
import Derived.OpenShut
namespace Go.Proofs.Ytlhjmbhoeabhmaa.PSpanDivides
open Go.RowKit Go.Proofs.YtlhjmbhoeabhmaaW.PrintWords Go.Proofs.YtlhjmbhoeabhmaaW.PrintLast Go.Proofs.Ytlhjmbhoeabhmaa.Num
set_option linter.unusedVariables false
set_option linter.unusedSimpArgs false

theorem rl0_ev : ∀ (m : Nat) (x y : Int), 0 ≤ x → 0 ≤ y → y.toNat ≤ m → Ev (fun k => monocoqueref01_Gcd.l0 k x y) ((Int.gcd x y : Nat) : Int) := by
  intro m
  induction m with
  | zero =>
    intro x y hx hy hm
    have e : y = 0 := by omega
    subst e
    rw [Int.gcd_zero, show ((x.natAbs : Nat) : Int) = x by omega]
    exact Ev.step (f := fun _ => some x) (fun k => by simp only [monocoqueref01_Gcd.l0]; rw [if_neg (by omega)]) (Ev.now _)
  | succ m ih =>
    intro x y hx hy hm
    by_cases e : y = 0
    · subst e
      rw [Int.gcd_zero, show ((x.natAbs : Nat) : Int) = x by omega]
      exact Ev.step (f := fun _ => some x) (fun k => by simp only [monocoqueref01_Gcd.l0]; rw [if_neg (by omega)]) (Ev.now _)
    · refine Ev.step (f := fun k => monocoqueref01_Gcd.l0 k y (Int.tmod x y)) (fun k => by simp only [monocoqueref01_Gcd.l0]; rw [if_pos (by omega), if_neg e]) ?_
      rw [tmod_pos hx, ← gcd_step hx (show 0 < y by omega)]
      have h0 := Int.emod_nonneg x e
      have h1 := Int.emod_lt_of_pos x (show 0 < y by omega)
      exact ih y (x % y) hy h0 (by omega)

theorem rgcd_ev {x y : Int} (hx : -9223372036854775808 < x) (hx2 : x ≤ 9223372036854775807) (hy : -9223372036854775808 < y) (hy2 : y ≤ 9223372036854775807) : Ev (fun k => monocoqueref01_Gcd.f k x y) ((Int.gcd x y : Nat) : Int) := by
  have j1 : ∀ x' y', 0 ≤ x' → 0 ≤ y' → Int.gcd x' y' = Int.gcd x y → Ev (fun k => monocoqueref01_Gcd.j1 k x' y') ((Int.gcd x y : Nat) : Int) := by
    intro x' y' h1 h2 h3
    rw [← h3]
    exact Ev.step (fun k => by simp only [monocoqueref01_Gcd.j1]) (rl0_ev y'.toNat x' y' h1 h2 (Nat.le_refl _))
  have j0 : ∀ x', 0 ≤ x' → Int.gcd x' y = Int.gcd x y → Ev (fun k => monocoqueref01_Gcd.j0 k x' y) ((Int.gcd x y : Nat) : Int) := by
    intro x' h1 h3
    by_cases c : y < 0
    · refine Ev.step (fun k => by simp only [monocoqueref01_Gcd.j0]; rw [if_pos c, wrap_id (by omega) (by omega)]) (j1 x' (-y) h1 (by omega) (by rw [Int.gcd_neg]; exact h3))
    · exact Ev.step (fun k => by simp only [monocoqueref01_Gcd.j0]; rw [if_neg c]) (j1 x' y h1 (by omega) h3)
  by_cases c : x < 0
  · refine Ev.congr (fun k => by simp only [monocoqueref01_Gcd.f]; rw [if_pos c, wrap_id (by omega) (by omega)]) (j0 (-x) (by omega) (by rw [Int.neg_gcd]))
  · exact Ev.congr (fun k => by simp only [monocoqueref01_Gcd.f]; rw [if_neg c]) (j0 x (by omega) rfl)

/-- The least multiple, told plainly: over is told as (0, 2). -/
def lcmS (m : Int) : List Int → Int × Int
  | [] => (m, 0)
  | n :: l => if n < 1 ∨ n > 1099511627776 then (0, 2) else
      let part := n / ((Int.gcd m n : Nat) : Int)
      if m * part > 1099511627776 then (0, 2) else lcmS (m * part) l

theorem rd_at {xs : List Int} {i : Int} (h0 : 0 ≤ i) (h1 : i < xs.length) : rd xs i ∈ xs ∧ xs.drop i.toNat = rd xs i :: xs.drop (i + 1).toNat := by
  have hlt : i.toNat < xs.length := by omega
  have er : rd xs i = xs[i.toNat] := by
    unfold rd
    rw [List.getD_eq_getElem?_getD, List.getElem?_eq_getElem hlt]; rfl
  refine ⟨by rw [er]; exact List.getElem_mem hlt, ?_⟩
  rw [List.drop_eq_getElem_cons hlt, er]
  congr 2
  omega

theorem part_facts {m n : Int} (hm : 1 ≤ m) (hm2 : m ≤ 1099511627776) (hn : 1 ≤ n) (hn2 : n ≤ 1099511627776) :
    1 ≤ ((Int.gcd m n : Nat) : Int) ∧ ((Int.gcd m n : Nat) : Int) ≤ 1099511627776 ∧ 1 ≤ n / ((Int.gcd m n : Nat) : Int) ∧ n / ((Int.gcd m n : Nat) : Int) ≤ 1099511627776 := by
  have g0 : 1 ≤ ((Int.gcd m n : Nat) : Int) := by
    have := Int.gcd_pos_of_ne_zero_left n (show m ≠ 0 by omega)
    omega
  have g1 : ((Int.gcd m n : Nat) : Int) ≤ 1099511627776 := by
    have := Int.gcd_le_left n (show 0 < m by omega)
    omega
  obtain ⟨q, hq⟩ := dvd_gcd_right m n
  have e : n / ((Int.gcd m n : Nat) : Int) = q := by
    generalize ((Int.gcd m n : Nat) : Int) = g at *
    subst hq
    exact Int.mul_ediv_cancel_left q (by omega)
  refine ⟨g0, g1, ?_, ?_⟩
  · rw [e]
    rcases Int.lt_or_le 0 q with h | h
    · omega
    · have := Int.mul_le_mul_of_nonneg_left h (show 0 ≤ ((Int.gcd m n : Nat) : Int) by omega)
      omega
  · have := Int.ediv_le_self ((Int.gcd m n : Nat) : Int) (show 0 ≤ n by omega)
    omega

theorem over_iff {m p : Int} (hm : 1 ≤ m) : p > 1099511627776 / m ↔ m * p > 1099511627776 := by
  rw [gt_iff_lt, gt_iff_lt, Int.ediv_lt_iff_lt_mul (by omega), Int.mul_comm]

theorem lcm_ev : ∀ (d : Nat) (xs : List Int) (m i : Int), 1 ≤ m → m ≤ 1099511627776 → 0 ≤ i → i + d = xs.length → xs.length ≤ 40 → Ev (fun k => span_Lcm.l0 k m xs (xs.length : Int) i) (lcmS m (xs.drop i.toNat)) := by
  intro d
  induction d with
  | zero =>
    intro xs m i hm hm2 hi hd hl
    rw [List.drop_eq_nil_of_le (by omega)]
    exact Ev.step (f := fun k => some (m, 0)) (fun k => by simp only [span_Lcm.l0]; rw [if_neg (by omega)]) (Ev.now _)
  | succ d ih =>
    intro xs m i hm hm2 hi hd hl
    obtain ⟨_, ed⟩ := rd_at hi (show i < xs.length by omega)
    rw [ed]
    unfold lcmS
    have bad : Ev (fun k => span_Lcm.j1 k m (rd xs i) xs xs.length i true) (0, 2) := Ev.step (f := fun _ => some (0, 2)) (fun k => by simp only [span_Lcm.j1, if_true]) (Ev.now _)
    by_cases c1 : rd xs i < 1
    · rw [if_pos (.inl c1)]
      exact Ev.step (fun k => by simp only [span_Lcm.l0]; rw [if_pos (by omega), if_pos hi, if_pos (by omega), if_pos c1]) bad
    by_cases c2 : rd xs i > 1099511627776
    · rw [if_pos (.inr c2)]
      exact Ev.step (fun k => by simp only [span_Lcm.l0]; rw [if_pos (by omega), if_pos hi, if_pos (by omega), if_neg c1, decide_eq_true c2]) bad
    rw [if_neg (by omega)]
    refine Ev.step (fun k => by simp only [span_Lcm.l0]; rw [if_pos (by omega), if_pos hi, if_pos (by omega), if_neg c1, decide_eq_false c2]) ?_
    obtain ⟨g0, g1, p0, p1⟩ := part_facts hm hm2 (show 1 ≤ rd xs i by omega) (by omega)
    have ge : gcdL 0 [m, rd xs i] = ((Int.gcd m (rd xs i) : Nat) : Int) := gcd2 (by omega)
    have gev := gcd_ev [m, rd xs i] (by simp) (by simp; omega)
    rw [ge] at gev
    refine Ev.step (f := fun k => (span_Gcd.f k [m, rd xs i]).bind fun t119 => (if t119 = 0 then none else (if m = 0 then none else (if (wrap64 (Int.tdiv (rd xs i) t119)) > (wrap64 (Int.tdiv (1099511627776 : Int) m)) then (some (0, 2)) else (span_Lcm.l0 k (wrap64 (m * (wrap64 (Int.tdiv (rd xs i) t119)))) xs xs.length (wrap64 (i + 1))))))) (fun k => by simp only [span_Lcm.j1]; rw [if_neg (by decide)]) ?_
    refine Ev.bind gev ?_
    have q1 := Int.ediv_le_self m (show (0 : Int) ≤ 1099511627776 by decide)
    have q0 := Int.ediv_nonneg (show (0 : Int) ≤ 1099511627776 by decide) (show 0 ≤ m by omega)
    have oi := over_iff (p := rd xs i / ((Int.gcd m (rd xs i) : Nat) : Int)) hm
    generalize ((Int.gcd m (rd xs i) : Nat) : Int) = g at *
    simp only [if_neg (show ¬ g = 0 by omega), if_neg (show ¬ m = 0 by omega), Int.tdiv_eq_ediv_of_nonneg (show 0 ≤ rd xs i by omega), Int.tdiv_eq_ediv_of_nonneg (show (0 : Int) ≤ 1099511627776 by decide)]
    generalize rd xs i / g = p at *
    have wp : wrap64 p = p := wrap_id (by omega) (by omega)
    have wm : wrap64 (1099511627776 / m) = 1099511627776 / m := wrap_id (by omega) (by omega)
    have wi : wrap64 (i + 1) = i + 1 := wrap_id (by omega) (by omega)
    simp only [wp, wm, wi]
    by_cases o : m * p > 1099511627776
    · simp only [if_pos (oi.2 o), if_pos o]
      exact Ev.now _
    · simp only [if_neg (fun h => o (oi.1 h)), if_neg o]
      have mp : 1 ≤ m * p := by
        have := Int.mul_le_mul hm p0 (by decide) (by omega)
        omega
      simp only [wrap_id (x := m * p) (by omega) (by omega)]
      exact ih xs (m * p) (i + 1) mp (by omega) (by omega) (by omega) hl

/-- Once over, it stays over. -/
theorem rover_ev : ∀ (d : Nat) (xs : List Int) (m i : Int), 0 ≤ i → i + d = xs.length → xs.length ≤ 40 → Ev (fun k => monocoqueref01_Lcm.l0 k xs m true i) (0, 2) := by
  intro d
  induction d with
  | zero =>
    intro xs m i hi hd hl
    exact Ev.step (f := fun k => some (0, 2)) (fun k => by simp only [monocoqueref01_Lcm.l0]; rw [if_neg (by omega), if_pos trivial]) (Ev.now _)
  | succ d ih =>
    intro xs m i hi hd hl
    have nx : Ev (fun k => monocoqueref01_Lcm.j1 k xs m true i) (0, 2) := by
      refine Ev.step (fun k => by simp only [monocoqueref01_Lcm.j1]; rw [if_pos trivial, wrap_id (x := i + 1) (by omega) (by omega)]) (ih xs m (i + 1) (by omega) (by omega) hl)
    by_cases c1 : rd xs i < 1
    · exact Ev.step (f := fun k => some (0, 2)) (fun k => by simp only [monocoqueref01_Lcm.l0]; rw [if_pos (by omega), if_pos hi, if_pos c1]) (Ev.now _)
    by_cases c2 : rd xs i > 1099511627776
    · exact Ev.step (fun k => by simp only [monocoqueref01_Lcm.l0]; rw [if_pos (by omega), if_pos hi, if_neg c1, if_pos c2]) nx
    · exact Ev.step (fun k => by simp only [monocoqueref01_Lcm.l0]; rw [if_pos (by omega), if_pos hi, if_neg c1, if_neg c2]) nx

theorem rlcm_ev : ∀ (d : Nat) (xs : List Int) (m i : Int), 1 ≤ m → m ≤ 1099511627776 → 0 ≤ i → i + d = xs.length → xs.length ≤ 40 → Ev (fun k => monocoqueref01_Lcm.l0 k xs m false i) (lcmS m (xs.drop i.toNat)) := by
  intro d
  induction d with
  | zero =>
    intro xs m i hm hm2 hi hd hl
    rw [List.drop_eq_nil_of_le (by omega)]
    exact Ev.step (f := fun k => some (m, 0)) (fun k => by simp only [monocoqueref01_Lcm.l0]; rw [if_neg (by omega), if_neg (by decide)]) (Ev.now _)
  | succ d ih =>
    intro xs m i hm hm2 hi hd hl
    obtain ⟨_, ed⟩ := rd_at hi (show i < xs.length by omega)
    rw [ed]
    unfold lcmS
    have ro := rover_ev d xs m (i + 1) (by omega) (by omega) hl
    by_cases c1 : rd xs i < 1
    · rw [if_pos (.inl c1)]
      exact Ev.step (f := fun k => some (0, 2)) (fun k => by simp only [monocoqueref01_Lcm.l0]; rw [if_pos (by omega), if_pos hi, if_pos c1]) (Ev.now _)
    by_cases c2 : rd xs i > 1099511627776
    · rw [if_pos (.inr c2)]
      refine Ev.step (fun k => by simp only [monocoqueref01_Lcm.l0]; rw [if_pos (by omega), if_pos hi, if_neg c1, if_pos c2]) ?_
      exact Ev.step (fun k => by simp only [monocoqueref01_Lcm.j1]; rw [if_pos trivial, wrap_id (x := i + 1) (by omega) (by omega)]) ro
    rw [if_neg (by omega)]
    refine Ev.step (f := fun k => monocoqueref01_Lcm.j1 k xs m false i) (fun k => by simp only [monocoqueref01_Lcm.l0]; rw [if_pos (by omega), if_pos hi, if_neg c1, if_neg c2]) ?_
    obtain ⟨g0, g1, p0, p1⟩ := part_facts hm hm2 (show 1 ≤ rd xs i by omega) (by omega)
    have gev := rgcd_ev (x := m) (y := rd xs i) (by omega) (by omega) (by omega) (by omega)
    refine Ev.step (f := fun k => (monocoqueref01_Gcd.f k m (rd xs i)).bind fun t124 => (if t124 = 0 then none else (if (wrap64 (Int.tdiv (rd xs i) t124)) = 0 then none else (if m > (wrap64 (Int.tdiv (1099511627776 : Int) (wrap64 (Int.tdiv (rd xs i) t124)))) then (monocoqueref01_Lcm.l0 k xs m true (wrap64 (i + 1))) else (monocoqueref01_Lcm.l0 k xs (wrap64 (m * (wrap64 (Int.tdiv (rd xs i) t124)))) false (wrap64 (i + 1))))))) (fun k => by simp only [monocoqueref01_Lcm.j1]; rw [if_neg (by decide), if_pos hi, if_pos (by omega)]) ?_
    refine Ev.bind gev ?_
    generalize ((Int.gcd m (rd xs i) : Nat) : Int) = g at *
    simp only [if_neg (show ¬ g = 0 by omega), Int.tdiv_eq_ediv_of_nonneg (show 0 ≤ rd xs i by omega)]
    generalize rd xs i / g = p at *
    have q1 := Int.ediv_le_self p (show (0 : Int) ≤ 1099511627776 by decide)
    have q0 := Int.ediv_nonneg (show (0 : Int) ≤ 1099511627776 by decide) (show 0 ≤ p by omega)
    have oi := over_iff (m := p) (p := m) p0
    rw [Int.mul_comm] at oi
    have wp : wrap64 p = p := wrap_id (by omega) (by omega)
    have wm : wrap64 (1099511627776 / p) = 1099511627776 / p := wrap_id (by omega) (by omega)
    have wi : wrap64 (i + 1) = i + 1 := wrap_id (by omega) (by omega)
    simp only [wp, if_neg (show ¬ p = 0 by omega), Int.tdiv_eq_ediv_of_nonneg (show (0 : Int) ≤ 1099511627776 by decide), wm, wi]
    by_cases o : m * p > 1099511627776
    · rw [if_pos o]
      refine Ev.congr (fun k => ?_) ro
      rw [if_pos (oi.2 o)]
    · rw [if_neg o]
      have mp : 1 ≤ m * p := by
        have := Int.mul_le_mul hm p0 (by decide) (by omega)
        omega
      refine Ev.congr (f := fun k => monocoqueref01_Lcm.l0 k xs (m * p) false (i + 1)) (fun k => ?_) (ih xs (m * p) (i + 1) mp (by omega) (by omega) (by omega) hl)
      rw [if_neg (fun h => o (oi.1 h)), wrap_id (x := m * p) (by omega) (by omega)]

theorem law_ev : ∀ (d : Nat) (xs : List Int) (g i : Int), 0 ≤ g → g ≤ 9223372036854775807 → 0 ≤ i → i + d = xs.length → xs.length ≤ 40 → (∀ x ∈ xs, -9223372036854775808 ≤ x ∧ x ≤ 9223372036854775807) → gcdL 0 xs = gcdL g (xs.drop i.toNat) → ((∀ x ∈ xs.take i.toNat, -4611686018427387904 ≤ x)) →
    Ev (fun k => monocoquelaw01_SpanDivides.l0 k xs g xs (xs.length : Int) i) true := by
  intro d
  induction d with
  | zero =>
    intro xs g i hg hg2 hi hd hl hx he ht
    rw [List.drop_eq_nil_of_le (by omega)] at he
    rw [List.take_of_length_le (by omega)] at ht
    refine Ev.step (fun k => by simp only [monocoquelaw01_SpanDivides.l0]; rw [if_neg (by omega)]) ?_
    have a := lcm_ev xs.length xs 1 0 (by decide) (by decide) (by decide) (by omega) hl
    have b := rlcm_ev xs.length xs 1 0 (by decide) (by decide) (by decide) (by omega) hl
    have c := gcd_ev xs (by omega) (fun x h => by
      have := hx x h
      have := ht x h
      omega)
    rw [he] at c
    refine Ev.bind (a := lcmS 1 xs) a ?_
    refine Ev.bind (a := lcmS 1 xs) b ?_
    refine Ev.bind c ?_
    have : gcdL g [] = g := rfl
    simp only [this, if_true, beq_self_eq_true]
    exact Ev.now _
  | succ d ih =>
    intro xs g i hg hg2 hi hd hl hx he ht
    obtain ⟨hm, ed⟩ := rd_at hi (show i < xs.length by omega)
    rw [ed] at he
    have hb := hx _ hm
    by_cases c : rd xs i < -4611686018427387904
    · exact Ev.step (f := fun _ => some true) (fun k => by simp only [monocoquelaw01_SpanDivides.l0]; rw [if_pos (by omega), if_pos hi, if_pos (by omega), if_pos c]) (Ev.now _)
    refine Ev.step (f := fun k => (monocoqueref01_Gcd.f k g (rd xs i)).bind fun t128 => (monocoquelaw01_SpanDivides.l0 k xs t128 xs xs.length (wrap64 (i + 1)))) (fun k => by simp only [monocoquelaw01_SpanDivides.l0]; rw [if_pos (by omega), if_pos hi, if_pos (by omega), if_neg c]) ?_
    refine Ev.bind (rgcd_ev (by omega) hg2 (by omega) (by omega)) ?_
    rw [wrap_id (x := i + 1) (by omega) (by omega)]
    refine ih xs _ (i + 1) (by omega) ?_ (by omega) (by omega) hl hx he ?_
    · by_cases z : rd xs i = 0
      · rw [z, Int.gcd_zero]
        omega
      · have := Int.natAbs_pos.2 z
        have h2 : Int.gcd g (rd xs i) ≤ (rd xs i).natAbs := Nat.gcd_le_right _ this
        omega
    · rw [show (i + 1).toNat = i.toNat + 1 by omega, List.take_add_one]
      intro x h
      rcases List.mem_append.1 h with h | h
      · exact ht x h
      · have hlt : i.toNat < xs.length := by omega
        rw [List.getElem?_eq_getElem hlt] at h
        have : x = xs[i.toNat] := by simpa using h
        have er : rd xs i = xs[i.toNat] := by
          unfold rd
          rw [List.getD_eq_getElem?_getD, List.getElem?_eq_getElem hlt]; rfl
        omega

theorem pure_law (xs : List Int) (m : xs.length ≤ maxLen) (y : xs.length * 8 ≤ 140737488351232) (w : ∀ x ∈ xs, (fun n : Int => (Lit.int .i64 n).wf = true) x) : ∃ k, monocoquelaw01_SpanDivides.f k xs = some true := by
  refine Ev.rounds (g := fun k => monocoquelaw01_SpanDivides.f k xs) ?_
  unfold monocoquelaw01_SpanDivides.f
  refine Ev.bind speaks_ev ?_
  simp only [if_true]
  by_cases c : (xs.length : Int) > 40
  · rw [decide_eq_true c]
    refine Ev.step (f := fun k => (monocoquelaw01_speaks.f k).bind fun t126 => (some t126)) (fun k => by simp only [monocoquelaw01_SpanDivides.j0, if_true]) ?_
    exact Ev.bind speaks_ev (Ev.now _)
  · rw [decide_eq_false c]
    refine Ev.step (f := fun k => monocoquelaw01_SpanDivides.l0 k xs 0 xs (xs.length : Int) 0) (fun k => by simp only [monocoquelaw01_SpanDivides.j0]; rw [if_neg (by decide)]) ?_
    exact law_ev xs.length xs 0 0 (by decide) (by decide) (by decide) (by omega) (by omega) (fun x h => bounds_i64 (w x h)) rfl (by simp)

end Go.Proofs.Ytlhjmbhoeabhmaa.PSpanDivides
