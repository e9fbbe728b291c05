/- How an array of whole numbers that is handed to a law is opened. -/
import Derived.Test.YtijakklhklcjhaaOpen
namespace Go.Proofs.Ytijakklhklcjhaa.Open
open Go.ChangeShapes Go.WideShapes
set_option linter.unusedVariables false
set_option linter.unusedSimpArgs false

theorem ints_of {k : IntKind} : ∀ (n : Nat) (cs : List Value), cs.length = n → (∀ i, i < n → ∃ m, (cs.drop i).take 1 = [.int k m] ∧ (Lit.int k m).wf = true) → ∃ l : List Int, l.length = n ∧ cs = l.map (Value.int k) ∧ ∀ x ∈ l, (Lit.int k x).wf = true
  | 0, cs, hl, h => ⟨[], rfl, by simpa using hl, by simp⟩
  | n + 1, [], hl, h => by simp at hl
  | n + 1, c :: cs, hl, h => by
    obtain ⟨m, h1, h2⟩ := h 0 (by omega)
    simp only [List.drop_zero, List.take_succ_cons, List.take_zero, List.cons.injEq, and_true] at h1
    obtain ⟨l, k1, k2, k3⟩ := ints_of (k := k) n cs (by simpa using hl) (fun i hi => by
      have := h (i + 1) (by omega)
      simpa using this)
    refine ⟨m :: l, by simp [k1], by simp [h1, k2], ?_⟩
    intro x hx
    rcases List.mem_cons.1 hx with rfl | hx
    · exact h2
    · exact k3 x hx

theorem arr_ints {P : Program} {t e : TypeId} {n : Nat} {k : IntKind} (ht : P.underlying t = some (.array n e)) (he : P.underlying e = some (.int k)) (hc : P.cellsOf e = 1) (hct : P.cellsOf t = n) {H : Type} {enc : TypeId × Value → H} {w : World} {spare : Nat → Bool} {held : Bool} {v : Value} {x : DataW H} {ps : List MemPlace}
    (hv : DataW.Trod enc P w 0 spare held t v x ps) : ∃ l : List Int, l.length = n ∧ v.cells.toList = l.map (Value.int k) ∧ ∀ y ∈ l, (Lit.int k y).wf = true := by
  obtain ⟨fuel, hf⟩ := hv
  obtain ⟨xs, m, _, _, hlen, hl, hel⟩ := DataW.trod_array ht hf
  refine ints_of n _ (by rw [hlen, hct]) (fun i hi => ?_)
  have h1 := hel i hi
  rw [hc, Nat.mul_one, List.getElem?_eq_getElem (by omega)] at h1
  obtain ⟨q, hq, _, hw⟩ := DataW.trod_int he h1
  exact ⟨q, hq, hw⟩

theorem len16 {l : List Int} (h : l.length = 16) : ∃ a0 a1 a2 a3 a4 a5 a6 a7 a8 a9 a10 a11 a12 a13 a14 a15, l = [a0, a1, a2, a3, a4, a5, a6, a7, a8, a9, a10, a11, a12, a13, a14, a15] := by
  match l, h with
  | [a0, a1, a2, a3, a4, a5, a6, a7, a8, a9, a10, a11, a12, a13, a14, a15], _ => exact ⟨a0, a1, a2, a3, a4, a5, a6, a7, a8, a9, a10, a11, a12, a13, a14, a15, rfl⟩

theorem okWide_array {P : Program} {w : World} {r : Reach} {base t n e : Nat} {v : Value} (ht : P.underlying t = some (.array n e)) (h : Value.okWide P w r base t v) : ∃ cs, v = .agg cs ∧ cs.size = P.cellsOf t := by
  simp only [Value.okWide, ht] at h
  obtain ⟨cs, h1, h2, _⟩ := h
  exact ⟨cs, h1, h2⟩
end Go.Proofs.Ytijakklhklcjhaa.Open
