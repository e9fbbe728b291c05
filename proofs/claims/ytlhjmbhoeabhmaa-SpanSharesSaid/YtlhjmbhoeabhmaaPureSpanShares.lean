/- The law SpanShares over numbers: what divides all divides the greatest divisor, and the least multiple is divided by all. -/
import Derived.Test.YtlhjmbhoeabhmaaGcdSpanShares
import Derived.Test.YtlhjmbhoeabhmaaQSpanSharesx2
import Derived.OpenShut
namespace Go.Proofs.Ytlhjmbhoeabhmaa.PSpanShares
open Go.RowKit Go.Proofs.YtlhjmbhoeabhmaaW.PrintWords Go.Proofs.YtlhjmbhoeabhmaaW.PrintLast Go.Proofs.Ytlhjmbhoeabhmaa.Num
set_option linter.unusedVariables false
set_option linter.unusedSimpArgs false

/-- The least multiple, told plainly: over is told as (0, 2). -/
def lcmS (m : Int) : List Int → Int × Int
  | [] => (m, 0)
  | n :: l => if n < 1 ∨ n > 1099511627776 then (0, 2) else
      let part := n / ((Int.gcd m n : Nat) : Int)
      if m * part > 1099511627776 then (0, 2) else lcmS (m * part) l

theorem rd_at {xs : List Int} {i : Int} (h0 : 0 ≤ i) (h1 : i < xs.length) : rd xs i ∈ xs ∧ xs.drop i.toNat = rd xs i :: xs.drop (i + 1).toNat := by
  have hlt : i.toNat < xs.length := by omega
  have er : rd xs i = xs[i.toNat] := by
    unfold rd
    rw [List.getD_eq_getElem?_getD, List.getElem?_eq_getElem hlt]; rfl
  refine ⟨by rw [er]; exact List.getElem_mem hlt, ?_⟩
  rw [List.drop_eq_getElem_cons hlt, er]
  congr 2
  omega

theorem part_facts {m n : Int} (hm : 1 ≤ m) (hm2 : m ≤ 1099511627776) (hn : 1 ≤ n) (hn2 : n ≤ 1099511627776) :
    1 ≤ ((Int.gcd m n : Nat) : Int) ∧ ((Int.gcd m n : Nat) : Int) ≤ 1099511627776 ∧ 1 ≤ n / ((Int.gcd m n : Nat) : Int) ∧ n / ((Int.gcd m n : Nat) : Int) ≤ 1099511627776 := by
  have g0 : 1 ≤ ((Int.gcd m n : Nat) : Int) := by
    have := Int.gcd_pos_of_ne_zero_left n (show m ≠ 0 by omega)
    omega
  have g1 : ((Int.gcd m n : Nat) : Int) ≤ 1099511627776 := by
    have := Int.gcd_le_left n (show 0 < m by omega)
    omega
  obtain ⟨q, hq⟩ := dvd_gcd_right m n
  have e : n / ((Int.gcd m n : Nat) : Int) = q := by
    generalize ((Int.gcd m n : Nat) : Int) = g at *
    subst hq
    exact Int.mul_ediv_cancel_left q (by omega)
  refine ⟨g0, g1, ?_, ?_⟩
  · rw [e]
    rcases Int.lt_or_le 0 q with h | h
    · omega
    · have := Int.mul_le_mul_of_nonneg_left h (show 0 ≤ ((Int.gcd m n : Nat) : Int) by omega)
      omega
  · have := Int.ediv_le_self ((Int.gcd m n : Nat) : Int) (show 0 ≤ n by omega)
    omega

theorem over_iff {m p : Int} (hm : 1 ≤ m) : p > 1099511627776 / m ↔ m * p > 1099511627776 := by
  rw [gt_iff_lt, gt_iff_lt, Int.ediv_lt_iff_lt_mul (by omega), Int.mul_comm]

theorem lcm_ev : ∀ (d : Nat) (xs : List Int) (m i : Int), 1 ≤ m → m ≤ 1099511627776 → 0 ≤ i → i + d = xs.length → xs.length ≤ 80 → Ev (fun k => span_Lcm.l0 k m xs (xs.length : Int) i) (lcmS m (xs.drop i.toNat)) := by
  intro d
  induction d with
  | zero =>
    intro xs m i hm hm2 hi hd hl
    rw [List.drop_eq_nil_of_le (by omega)]
    exact Ev.step (f := fun k => some (m, 0)) (fun k => by simp only [span_Lcm.l0]; rw [if_neg (by omega)]) (Ev.now _)
  | succ d ih =>
    intro xs m i hm hm2 hi hd hl
    obtain ⟨_, ed⟩ := rd_at hi (show i < xs.length by omega)
    rw [ed]
    unfold lcmS
    have bad : Ev (fun k => span_Lcm.j1 k m (rd xs i) xs xs.length i true) (0, 2) := Ev.step (f := fun _ => some (0, 2)) (fun k => by simp only [span_Lcm.j1, if_true]) (Ev.now _)
    by_cases c1 : rd xs i < 1
    · rw [if_pos (.inl c1)]
      exact Ev.step (fun k => by simp only [span_Lcm.l0]; rw [if_pos (by omega), if_pos hi, if_pos (by omega), if_pos c1]) bad
    by_cases c2 : rd xs i > 1099511627776
    · rw [if_pos (.inr c2)]
      exact Ev.step (fun k => by simp only [span_Lcm.l0]; rw [if_pos (by omega), if_pos hi, if_pos (by omega), if_neg c1, decide_eq_true c2]) bad
    rw [if_neg (by omega)]
    refine Ev.step (fun k => by simp only [span_Lcm.l0]; rw [if_pos (by omega), if_pos hi, if_pos (by omega), if_neg c1, decide_eq_false c2]) ?_
    obtain ⟨g0, g1, p0, p1⟩ := part_facts hm hm2 (show 1 ≤ rd xs i by omega) (by omega)
    have ge : gcdL 0 [m, rd xs i] = ((Int.gcd m (rd xs i) : Nat) : Int) := gcd2 (by omega)
    have gev := gcd_ev [m, rd xs i] (by simp) (by simp; omega)
    rw [ge] at gev
    refine Ev.step (f := fun k => (span_Gcd.f k [m, rd xs i]).bind fun t119 => (if t119 = 0 then none else (if m = 0 then none else (if (wrap64 (Int.tdiv (rd xs i) t119)) > (wrap64 (Int.tdiv (1099511627776 : Int) m)) then (some (0, 2)) else (span_Lcm.l0 k (wrap64 (m * (wrap64 (Int.tdiv (rd xs i) t119)))) xs xs.length (wrap64 (i + 1))))))) (fun k => by simp only [span_Lcm.j1]; rw [if_neg (by decide)]) ?_
    refine Ev.bind gev ?_
    have q1 := Int.ediv_le_self m (show (0 : Int) ≤ 1099511627776 by decide)
    have q0 := Int.ediv_nonneg (show (0 : Int) ≤ 1099511627776 by decide) (show 0 ≤ m by omega)
    have oi := over_iff (p := rd xs i / ((Int.gcd m (rd xs i) : Nat) : Int)) hm
    generalize ((Int.gcd m (rd xs i) : Nat) : Int) = g at *
    simp only [if_neg (show ¬ g = 0 by omega), if_neg (show ¬ m = 0 by omega), Int.tdiv_eq_ediv_of_nonneg (show 0 ≤ rd xs i by omega), Int.tdiv_eq_ediv_of_nonneg (show (0 : Int) ≤ 1099511627776 by decide)]
    generalize rd xs i / g = p at *
    have wp : wrap64 p = p := wrap_id (by omega) (by omega)
    have wm : wrap64 (1099511627776 / m) = 1099511627776 / m := wrap_id (by omega) (by omega)
    have wi : wrap64 (i + 1) = i + 1 := wrap_id (by omega) (by omega)
    simp only [wp, wm, wi]
    by_cases o : m * p > 1099511627776
    · simp only [if_pos (oi.2 o), if_pos o]
      exact Ev.now _
    · simp only [if_neg (fun h => o (oi.1 h)), if_neg o]
      have mp : 1 ≤ m * p := by
        have := Int.mul_le_mul hm p0 (by decide) (by omega)
        omega
      simp only [wrap_id (x := m * p) (by omega) (by omega)]
      exact ih xs (m * p) (i + 1) mp (by omega) (by omega) (by omega) hl

theorem lcm_ev2 (xs : List Int) (hl : xs.length ≤ 80) : Ev (fun k => span_Lcm.f k xs) (lcmS 1 xs) := by
  have := lcm_ev xs.length xs 1 0 (by decide) (by decide) (by decide) (by omega) hl
  have e : List.drop (Int.toNat 0) xs = xs := rfl
  rw [e] at this
  simpa only [span_Lcm.f] using this

theorem gcdL_mul (k : Int) (hk : 0 < k) : ∀ (l : List Int) (g : Int), gcdL (g * k) (l.map (· * k)) = gcdL g l * k := by
  intro l
  induction l with
  | nil => intro g; rfl
  | cons x l ih =>
    intro g
    simp only [gcdL, List.map_cons, List.foldl_cons]
    have e : ((Int.gcd (g * k) (x * k) : Nat) : Int) = ((Int.gcd g x : Nat) : Int) * k := by
      rw [Int.gcd_mul_right]
      have : ((k.natAbs : Nat) : Int) = k := by omega
      rw [Int.natCast_mul, this]
    rw [e]
    exact ih _

theorem gcdL_dvd : ∀ (l : List Int) (g : Int), gcdL g l ∣ g ∧ ∀ x ∈ l, gcdL g l ∣ x := by
  intro l
  induction l with
  | nil => intro g; exact ⟨Int.dvd_refl _, by simp⟩
  | cons y l ih =>
    intro g
    simp only [gcdL, List.foldl_cons]
    obtain ⟨h1, h2⟩ := ih ((Int.gcd g y : Nat) : Int)
    unfold gcdL at h1 h2
    refine ⟨Int.dvd_trans h1 (dvd_gcd_left g y), ?_⟩
    intro x hx
    rcases List.mem_cons.1 hx with rfl | hx
    · exact Int.dvd_trans h1 (dvd_gcd_right g x)
    · exact h2 x hx

theorem gcdL_range : ∀ (l : List Int) (g : Int), 0 ≤ g → g ≤ 4294967295 → (∀ x ∈ l, 0 ≤ x ∧ x ≤ 4294967295) → 0 ≤ gcdL g l ∧ gcdL g l ≤ 4294967295 := by
  intro l
  induction l with
  | nil => intro g h0 h1 _; exact ⟨h0, h1⟩
  | cons y l ih =>
    intro g h0 h1 h
    simp only [gcdL, List.foldl_cons]
    have hy := h y (List.mem_cons_self ..)
    refine ih _ (by omega) ?_ (fun x hx => h x (List.mem_cons_of_mem _ hx))
    by_cases z : y = 0
    · subst z
      rw [Int.gcd_zero]; omega
    · have h2 : Int.gcd g y ≤ y.natAbs := Nat.gcd_le_right _ (Int.natAbs_pos.2 z)
      omega

theorem lcm_bad : ∀ (l : List Int) (m : Int), (lcmS m l).2 = 0 ∨ lcmS m l = (0, 2) := by
  intro l
  induction l with
  | nil => intro m; exact .inl rfl
  | cons x l ih =>
    intro m
    unfold lcmS
    split
    · exact .inr rfl
    · dsimp only
      split
      · exact .inr rfl
      · exact ih _

theorem lcm_good : ∀ (l : List Int) (m : Int), 1 ≤ m → m ≤ 1099511627776 → (lcmS m l).2 = 0 → 1 ≤ (lcmS m l).1 ∧ (lcmS m l).1 ≤ 1099511627776 ∧ m ∣ (lcmS m l).1 ∧ ∀ x ∈ l, 1 ≤ x ∧ x ∣ (lcmS m l).1 := by
  intro l
  induction l with
  | nil => intro m h1 h2 _; exact ⟨h1, h2, Int.dvd_refl _, by simp⟩
  | cons x l ih =>
    intro m h1 h2 h
    unfold lcmS at h ⊢
    by_cases c : x < 1 ∨ x > 1099511627776
    · rw [if_pos c] at h
      simp at h
    · rw [if_neg c] at h ⊢
      dsimp only at h ⊢
      by_cases o : m * (x / ((Int.gcd m x : Nat) : Int)) > 1099511627776
      · rw [if_pos o] at h
        simp at h
      · rw [if_neg o] at h ⊢
        obtain ⟨g0, g1, p0, p1⟩ := part_facts h1 h2 (show 1 ≤ x by omega) (by omega)
        have mp : 1 ≤ m * (x / ((Int.gcd m x : Nat) : Int)) := by
          have := Int.mul_le_mul h1 p0 (by decide) (by omega)
          omega
        obtain ⟨a, b, d, e⟩ := ih _ mp (by omega) h
        refine ⟨a, b, Int.dvd_trans (Int.dvd_mul_right _ _) d, ?_⟩
        intro y hy
        rcases List.mem_cons.1 hy with rfl | hy
        · refine ⟨by omega, Int.dvd_trans ?_ d⟩
          obtain ⟨q, hq⟩ := dvd_gcd_left m y
          obtain ⟨r, hr⟩ := dvd_gcd_right m y
          generalize ((Int.gcd m y : Nat) : Int) = g at *
          have e1 : y / g = r := by
            rw [hr]
            exact Int.mul_ediv_cancel_left r (by omega)
          rw [e1]
          refine ⟨q, ?_⟩
          rw [hq, hr]
          grind
        · exact e y hy

theorem lcm_stays : ∀ (l : List Int) (n : Int), 1 ≤ n → n ≤ 1099511627776 → (∀ x ∈ l, 1 ≤ x ∧ x ∣ n) → lcmS n l = (n, 0) := by
  intro l
  induction l with
  | nil => intro n _ _ _; rfl
  | cons x l ih =>
    intro n h1 h2 h
    obtain ⟨x1, x2⟩ := h x (List.mem_cons_self ..)
    have x3 := Int.le_of_dvd (by omega) x2
    unfold lcmS
    rw [if_neg (by omega)]
    have e : ((Int.gcd n x : Nat) : Int) = x := by
      have : Int.gcd n x = x.natAbs := Int.gcd_eq_natAbs_right x2
      omega
    dsimp only
    rw [e, Int.ediv_self (by omega), Int.mul_one, if_neg (by omega)]
    exact ih n h1 h2 (fun y hy => h y (List.mem_cons_of_mem _ hy))

theorem lcm_append : ∀ (l r : List Int) (m : Int), lcmS m (l ++ r) = if (lcmS m l).2 = 0 then lcmS (lcmS m l).1 r else (0, 2) := by
  intro l
  induction l with
  | nil => intro r m; simp [lcmS]
  | cons x l ih =>
    intro r m
    rw [List.cons_append]
    have e : ∀ l, lcmS m (x :: l) = if x < 1 ∨ x > 1099511627776 then (0, 2) else if m * (x / ((Int.gcd m x : Nat) : Int)) > 1099511627776 then (0, 2) else lcmS (m * (x / ((Int.gcd m x : Nat) : Int))) l := fun _ => rfl
    rw [e, e]
    by_cases c : x < 1 ∨ x > 1099511627776
    · rw [if_pos c, if_pos c]
      rfl
    · rw [if_neg c, if_neg c]
      by_cases o : m * (x / ((Int.gcd m x : Nat) : Int)) > 1099511627776
      · rw [if_pos o, if_pos o]
        rfl
      · rw [if_neg o, if_neg o]
        exact ih _ _

section
variable {xs : List Int} (hl : xs.length ≤ 40) (hx : ∀ x ∈ xs, 0 ≤ x ∧ x ≤ 4294967295)
include hl hx
set_option linter.unusedSectionVars false

theorem l2_ev : ∀ (d : Nat) (i : Int), 0 ≤ i → i + d = xs.length → Ev (fun k => monocoquelaw01_SpanShares.l2 k xs (gcdL 0 xs) (lcmS 1 xs).1 (lcmS 1 xs).2 xs (xs.length : Int) i) true := by
  have good := lcm_good xs 1 (by decide) (by decide)
  intro d
  induction d with
  | zero =>
    intro i hi hd
    have a := lcm_ev2 (xs ++ xs) (by rw [List.length_append]; omega)
    rw [lcm_append] at a
    refine Ev.step (fun k => by simp only [monocoquelaw01_SpanShares.l2]; rw [if_neg (by omega), if_pos (by omega)]) ?_
    refine Ev.bind a ?_
    rcases lcm_bad xs 1 with h | h
    · obtain ⟨g1, g2, g3, g4⟩ := good h
      rw [if_pos h, lcm_stays xs _ g1 g2 g4]
      simp only [h, if_true, if_pos g1, ge_iff_le, g2, decide_true]
      exact Ev.now _
    · rw [h]
      simp only []
      exact Ev.now _
  | succ d ih =>
    intro i hi hd
    obtain ⟨hm, _⟩ := rd_at hi (show i < xs.length by omega)
    have hb := hx _ hm
    have dv := (gcdL_dvd xs 0).2 _ hm
    have gr := gcdL_range xs 0 (by decide) (by decide) hx
    have nx := ih (i + 1) (by omega) (by omega)
    have wi : wrap64 (i + 1) = i + 1 := wrap_id (by omega) (by omega)
    refine Ev.step (f := fun k => monocoquelaw01_SpanShares.l2 k xs (gcdL 0 xs) (lcmS 1 xs).1 (lcmS 1 xs).2 xs (xs.length : Int) (i + 1)) (fun k => ?_) nx
    simp only [monocoquelaw01_SpanShares.l2]
    rw [if_pos (show i < (xs.length : Int) by omega), if_pos hi, if_pos (show i < (xs.length : Int) by omega), wi]
    have rest : (if (lcmS 1 xs).2 = 0 then (if rd xs i < 1 then some false else if rd xs i = 0 then none else if Int.tmod (lcmS 1 xs).1 (rd xs i) = 0 then monocoquelaw01_SpanShares.l2 k xs (gcdL 0 xs) (lcmS 1 xs).1 (lcmS 1 xs).2 xs (xs.length : Int) (i + 1) else some false) else monocoquelaw01_SpanShares.l2 k xs (gcdL 0 xs) (lcmS 1 xs).1 (lcmS 1 xs).2 xs (xs.length : Int) (i + 1)) = monocoquelaw01_SpanShares.l2 k xs (gcdL 0 xs) (lcmS 1 xs).1 (lcmS 1 xs).2 xs (xs.length : Int) (i + 1) := by
      by_cases h : (lcmS 1 xs).2 = 0
      · obtain ⟨g1, g2, g3, g4⟩ := good h
        obtain ⟨x1, x2⟩ := g4 _ hm
        rw [if_pos h, if_neg (by omega), if_neg (by omega), Int.tmod_eq_zero_of_dvd x2, if_pos rfl]
      · rw [if_neg h]
    by_cases c : gcdL 0 xs > 0
    · rw [if_pos c, if_neg (by omega), Int.tmod_eq_zero_of_dvd dv, if_pos rfl]
      exact rest
    · rw [if_neg c]
      exact rest

theorem l1_ev2 {m : Int} (hm1 : 1 ≤ m) (hm2 : m ≤ 65536) : ∀ (d : Nat) (i : Int), 0 ≤ i → i + d = xs.length → Ev (fun k => monocoquelaw01_SpanShares.l1 k xs m ((xs.take i.toNat).map (· * m)) xs (xs.length : Int) i) true := by
  intro d
  induction d with
  | zero =>
    intro i hi hd
    rw [List.take_of_length_le (by omega)]
    refine Ev.step (fun k => by simp only [monocoquelaw01_SpanShares.l1]; rw [if_neg (by omega)]) ?_
    have gr := gcdL_range xs 0 (by decide) (by decide) hx
    have a := gcd_ev xs (by omega) (fun x h => by have := hx x h; omega)
    have b := gcd_ev (xs.map (· * m)) (by rw [List.length_map]; omega) (fun x h => by
      obtain ⟨y, hy, rfl⟩ := List.mem_map.1 h
      have h1 := hx y hy
      have h2 := Int.mul_le_mul h1.2 hm2 (by omega) (by decide)
      have h3 := Int.mul_nonneg h1.1 (show 0 ≤ m by omega)
      show -9223372036854775808 < y * m ∧ y * m ≤ 9223372036854775807
      omega)
    have e := gcdL_mul m (by omega) xs 0
    rw [Int.zero_mul] at e
    rw [e] at b
    have gm : 0 ≤ gcdL 0 xs * m ∧ gcdL 0 xs * m ≤ 9223372036854775807 := by
      have h2 := Int.mul_le_mul gr.2 hm2 (by omega) (by decide)
      have h3 := Int.mul_nonneg gr.1 (show 0 ≤ m by omega)
      omega
    refine Ev.bind a ?_
    refine Ev.bind b ?_
    simp only [wrap_id (x := gcdL 0 xs * m) (by omega) (by omega), if_true]
    refine Ev.bind (lcm_ev2 xs (by omega)) ?_
    exact l2_ev hl hx xs.length 0 (by decide) (by omega)
  | succ d ih =>
    intro i hi hd
    obtain ⟨hm, ed⟩ := rd_at hi (show i < xs.length by omega)
    have hb := hx _ hm
    have h2 := Int.mul_le_mul hb.2 hm2 (by omega) (by decide)
    have h3 := Int.mul_nonneg hb.1 (show 0 ≤ m by omega)
    have nx := ih (i + 1) (by omega) (by omega)
    have e : (xs.take (i + 1).toNat).map (· * m) = (xs.take i.toNat).map (· * m) ++ [rd xs i * m] := by
      have hlt : i.toNat < xs.length := by omega
      rw [show (i + 1).toNat = i.toNat + 1 by omega, List.take_add_one, List.getElem?_eq_getElem hlt, List.map_append]
      congr 1
      have er : rd xs i = xs[i.toNat] := by
        unfold rd
        rw [List.getD_eq_getElem?_getD, List.getElem?_eq_getElem hlt]; rfl
      rw [er]
      rfl
    rw [e] at nx
    refine Ev.step (fun k => ?_) nx
    simp only [monocoquelaw01_SpanShares.l1]
    rw [if_pos (show i < (xs.length : Int) by omega), if_pos hi, if_pos (show i < (xs.length : Int) by omega), if_pos (by rw [List.length_map, List.length_take]; omega), wrap_id (x := i + 1) (by omega) (by omega), wrap_id (x := rd xs i * m) (by omega) (by omega)]

theorem l0_ev2 {dd : Int} (h0 : 0 ≤ dd) (h1 : dd ≤ 65535) : ∀ (d : Nat) (i : Int), 0 ≤ i → i + d = xs.length → Ev (fun k => monocoquelaw01_SpanShares.l0 k dd (xs.take i.toNat) xs (xs.length : Int) i) true := by
  intro d
  induction d with
  | zero =>
    intro i hi hd
    rw [List.take_of_length_le (by omega)]
    refine Ev.step (f := fun k => monocoquelaw01_SpanShares.l1 k xs (dd + 1) ((xs.take (Int.toNat 0)).map (· * (dd + 1))) xs (xs.length : Int) 0) (fun k => ?_) (l1_ev2 hl hx (show 1 ≤ dd + 1 by omega) (by omega) xs.length 0 (by decide) (by omega))
    simp only [monocoquelaw01_SpanShares.l0]
    rw [if_neg (by omega), wrap_id (x := dd) (by omega) (by omega), wrap_id (x := dd + 1) (by omega) (by omega)]
    rfl
  | succ d ih =>
    intro i hi hd
    obtain ⟨hm, ed⟩ := rd_at hi (show i < xs.length by omega)
    have hb := hx _ hm
    have nx := ih (i + 1) (by omega) (by omega)
    have e : xs.take (i + 1).toNat = xs.take i.toNat ++ [rd xs i] := by
      have hlt : i.toNat < xs.length := by omega
      rw [show (i + 1).toNat = i.toNat + 1 by omega, List.take_add_one, List.getElem?_eq_getElem hlt]
      have er : rd xs i = xs[i.toNat] := by
        unfold rd
        rw [List.getD_eq_getElem?_getD, List.getElem?_eq_getElem hlt]; rfl
      rw [er]
      rfl
    rw [e] at nx
    refine Ev.step (fun k => ?_) nx
    simp only [monocoquelaw01_SpanShares.l0]
    rw [if_pos (show i < (xs.length : Int) by omega), if_pos hi, if_pos (show i < (xs.length : Int) by omega), if_pos (by rw [List.length_take]; omega), wrap_id (x := i + 1) (by omega) (by omega), wrap_id (x := rd xs i) (by omega) (by omega)]
end

theorem pure_law (xs : List Int) (d : Int) (m : xs.length ≤ maxLen) (y : xs.length * 4 ≤ 140737488351232) (w : ∀ x ∈ xs, (fun n : Int => (Lit.int .u32 n).wf = true) x) (w1 : (Lit.int .u16 d).wf = true) : ∃ k, monocoquelaw01_SpanShares.f k xs d = some true := by
  have hd := bounds_u16 w1
  refine Ev.rounds (g := fun k => monocoquelaw01_SpanShares.f k xs d) ?_
  unfold monocoquelaw01_SpanShares.f
  refine Ev.bind speaks_ev ?_
  simp only [if_true]
  by_cases c : (xs.length : Int) > 40
  · rw [decide_eq_true c]
    refine Ev.step (f := fun k => (monocoquelaw01_speaks.f k).bind fun t126 => (some t126)) (fun k => by simp only [monocoquelaw01_SpanShares.j0, if_true]) ?_
    exact Ev.bind speaks_ev (Ev.now _)
  · rw [decide_eq_false c]
    refine Ev.step (f := fun k => monocoquelaw01_SpanShares.l0 k d (xs.take (Int.toNat 0)) xs (xs.length : Int) 0) (fun k => by simp only [monocoquelaw01_SpanShares.j0]; rw [if_neg (by decide)]; rfl) ?_
    exact l0_ev2 (by omega) (fun x h => bounds_u32 (w x h)) hd.1 hd.2 xs.length 0 (by decide) (by omega)

end Go.Proofs.Ytlhjmbhoeabhmaa.PSpanShares
