/- What span.Gcd and span.Meet come to (law SpanShares), and that the chapter's example holds. -/
import Derived.Test.YtlhjmbhoeabhmaaNum
import Derived.Test.YtlhjmbhoeabhmaaQSpanSharesx1
namespace Go.Proofs.Ytlhjmbhoeabhmaa.PSpanShares
open Go.RowKit Go.Proofs.YtlhjmbhoeabhmaaW.PrintWords Go.Proofs.YtlhjmbhoeabhmaaW.PrintLast Go.Proofs.Ytlhjmbhoeabhmaa.Num
set_option linter.unusedVariables false
set_option linter.unusedSimpArgs false

/-- Of all numbers: the greatest one that divides them. -/
def gcdL (g : Int) (l : List Int) : Int := l.foldl (fun g n => ((Int.gcd g n : Nat) : Int)) g

theorem l1_ev (xs : List Int) (n i r : Int) : ∀ (m : Nat) (x y : Int), 0 ≤ x → 0 ≤ y → y.toNat ≤ m → Ev (fun k => span_Gcd.l0 k ((Int.gcd x y : Nat) : Int) xs n (wrap64 (i + 1))) r → Ev (fun k => span_Gcd.l1 k x y xs n i) r := by
  intro m
  induction m with
  | zero =>
    intro x y hx hy hm h
    have e : y = 0 := by omega
    subst e
    refine Ev.step (f := fun k => span_Gcd.l0 k x xs n (wrap64 (i + 1))) (fun k => by simp only [span_Gcd.l1, if_true]) ?_
    have e2 : ((Int.gcd x 0 : Nat) : Int) = x := by rw [Int.gcd_zero]; omega
    rw [e2] at h
    exact h
  | succ m ih =>
    intro x y hx hy hm h
    by_cases e : y = 0
    · subst e
      refine Ev.step (f := fun k => span_Gcd.l0 k x xs n (wrap64 (i + 1))) (fun k => by simp only [span_Gcd.l1, if_true]) ?_
      have e2 : ((Int.gcd x 0 : Nat) : Int) = x := by rw [Int.gcd_zero]; omega
      rw [e2] at h
      exact h
    · refine Ev.step (f := fun k => span_Gcd.l1 k y (Int.tmod x y) xs n i) (fun k => by simp only [span_Gcd.l1, if_neg e]) ?_
      rw [tmod_pos hx]
      have h0 := Int.emod_nonneg x e
      have h1 := Int.emod_lt_of_pos x (show 0 < y by omega)
      refine ih y (x % y) hy h0 (by omega) ?_
      rw [gcd_step hx (by omega)]
      exact h

theorem l0_ev : ∀ (d : Nat) (xs : List Int) (g i : Int), 0 ≤ g → 0 ≤ i → i + d = xs.length → xs.length ≤ 9223372036854775806 → (∀ x ∈ xs, -9223372036854775808 < x ∧ x ≤ 9223372036854775807) →
    Ev (fun k => span_Gcd.l0 k g xs (xs.length : Int) i) (gcdL g (xs.drop i.toNat)) := by
  intro d
  induction d with
  | zero =>
    intro xs g i hg hi hd hl hx
    rw [List.drop_eq_nil_of_le (by omega)]
    exact Ev.step (f := fun k => some g) (fun k => by simp only [span_Gcd.l0]; rw [if_neg (by omega)]) (Ev.now _)
  | succ d ih =>
    intro xs g i hg hi hd hl hx
    have hlt : i.toNat < xs.length := by omega
    have er : rd xs i = xs[i.toNat] := by
      unfold rd
      rw [List.getD_eq_getElem?_getD, List.getElem?_eq_getElem hlt]; rfl
    have hb := hx _ (List.getElem_mem hlt)
    rw [← er] at hb
    have ed : xs.drop i.toNat = rd xs i :: xs.drop (i + 1).toNat := by
      rw [List.drop_eq_getElem_cons hlt, er]
      congr 2
      omega
    rw [ed]
    have ew : wrap64 (i + 1) = i + 1 := wrap_id (by omega) (by omega)
    have next := fun (y : Int) (hy : 0 ≤ y) (e : Int.gcd g y = Int.gcd g (rd xs i)) => l1_ev xs xs.length i (gcdL g (rd xs i :: xs.drop (i + 1).toNat)) y.toNat g y hg hy (Nat.le_refl _) (by
      rw [ew, e]
      exact ih xs _ (i + 1) (by omega) (by omega) (by omega) hl hx)
    by_cases hn : rd xs i < 0
    · refine Ev.step (f := fun k => span_Gcd.j1 k g (wrap64 (-(rd xs i))) xs xs.length i) (fun k => by simp only [span_Gcd.l0]; rw [if_pos (by omega), if_pos hi, if_pos (by omega), if_pos hn]) ?_
      refine Ev.step (f := fun k => span_Gcd.l1 k g (wrap64 (-(rd xs i))) xs xs.length i) (fun k => by simp only [span_Gcd.j1]) ?_
      rw [wrap_id (by omega) (by omega)]
      exact next (-(rd xs i)) (by omega) (by rw [Int.gcd_neg])
    · refine Ev.step (f := fun k => span_Gcd.j1 k g (rd xs i) xs xs.length i) (fun k => by simp only [span_Gcd.l0]; rw [if_pos (by omega), if_pos hi, if_pos (by omega), if_neg hn]) ?_
      refine Ev.step (f := fun k => span_Gcd.l1 k g (rd xs i) xs xs.length i) (fun k => by simp only [span_Gcd.j1]) ?_
      exact next (rd xs i) (by omega) rfl

theorem gcd_ev (xs : List Int) (hl : xs.length ≤ 9223372036854775806) (hx : ∀ x ∈ xs, -9223372036854775808 < x ∧ x ≤ 9223372036854775807) : Ev (fun k => span_Gcd.f k xs) (gcdL 0 xs) := by
  have := l0_ev xs.length xs 0 0 (by omega) (by omega) (by omega) hl hx
  have e : List.drop (Int.toNat 0) xs = xs := rfl
  rw [e] at this
  simpa only [span_Gcd.f] using this

/-- Meet, told plainly. -/
def meets (fa ea la fb eb lb : Int) : Bool :=
  let g : Int := ((Int.gcd ea eb : Nat) : Int)
  let r := (fb - fa) % g
  decide (r < la) || decide (g - r < lb)

theorem gcd2 {a b : Int} (ha : 0 ≤ a) : gcdL 0 [a, b] = ((Int.gcd a b : Nat) : Int) := by
  simp only [gcdL, List.foldl_cons, List.foldl_nil, Int.zero_gcd]
  rw [show ((a.natAbs : Nat) : Int) = a by omega]

theorem meet_ev {fa ea la fb eb lb : Int} (h1 : 1 ≤ ea) (h2 : ea ≤ 1099511627776) (h3 : 1 ≤ eb) (h4 : eb ≤ 1099511627776) (h5 : 0 ≤ fa) (h6 : fa ≤ 1099511627776) (h7 : 0 ≤ fb) (h8 : fb ≤ 1099511627776) :
    Ev (fun k => span_Meet.f k fa ea la fb eb lb) (meets fa ea la fb eb lb) := by
  unfold span_Meet.f
  refine Ev.bind (gcd_ev [ea, eb] (by simp) (by simp; omega)) ?_
  rw [gcd2 (by omega)]
  have g0 : 0 < ((Int.gcd ea eb : Nat) : Int) := by
    have := Int.gcd_pos_of_ne_zero_left eb (show ea ≠ 0 by omega)
    omega
  have g1 : ((Int.gcd ea eb : Nat) : Int) ≤ 1099511627776 := by
    have := Int.gcd_le_left eb (show 0 < ea by omega)
    omega
  unfold meets
  generalize hg : ((Int.gcd ea eb : Nat) : Int) = g at g0 g1 ⊢
  have a0 := Int.lt_tmod_of_pos (fb - fa) g0
  have a1 := Int.tmod_lt_of_pos (fb - fa) g0
  have b0 := Int.emod_nonneg (fb - fa) (show g ≠ 0 by omega)
  have b1 := Int.emod_lt_of_pos (fb - fa) g0
  rw [if_neg (by omega), wrap_id (x := fb - fa) (by omega) (by omega), wrap_id (x := _ + g) (by omega) (by omega), tmod_norm g0, wrap_id (x := g - _) (by omega) (by omega)]
  by_cases c : (fb - fa) % g < la
  · rw [if_pos c]
    simp only [c, decide_true, Bool.true_or]
    exact Ev.now _
  · rw [if_neg c]
    simp only [c, decide_false, Bool.false_or]
    exact Ev.now _

theorem speaks_ev : Ev (fun k => monocoquelaw01_speaks.f k) true := Ev.of (fun k => monocoquelaw01_speaks.mono k) (k := 30) (by kernel_rfl)

end Go.Proofs.Ytlhjmbhoeabhmaa.PSpanShares
