/- What is reckoned is what the machine does: operation by operation (fourth part: indexes, calls, what is put together, rows that grow). -/
import Derived.Test.YtijakklhklcjhaaAb8
namespace Go.Proofs.YtijakklhklcjhaaA
open Go Go.RowKit
set_option linter.unusedVariables false
set_option linter.unusedSimpArgs false

section
variable {P : Program} {T : TT} {W0 : World} {g0 g : Gh} {st : St} {a : Act} {w : World} {o : Oper}

theorem move_ok (h : Rel W0 g0 g st a w) {x : Operand} (ho : o.op = .move x ∨ o.op = .assign x) : EfOk P g st a w o (.val (opnd st x)) := by
  refine ⟨a.eval x, ?_, opnd_ok h x⟩
  rcases ho with ho | ho <;> · unfold execOp; rw [ho]; rfl

theorem pick_ok (h : Rel W0 g0 g st a w) {c x y : Operand} (ho : o.op = .pick c x y) : EfOk P g st a w o (ev T st (.pick c x y)) := by
  have he : execOp a.eval o = (do pure (.value (if ← asBool (a.eval c) then a.eval x else a.eval y))) := by unfold execOp; rw [ho]
  have hc := opnd_ok h c
  simp only [ev]
  cases hq : opnd st c with
  | p d =>
    rw [hq] at hc
    cases d with
    | v vc =>
      have ec : a.eval c = vc := AVal_pv.1 hc
      cases vc with
      | bool b =>
        refine ⟨if b then a.eval x else a.eval y, ?_, fun hb => ?_, fun hb => ?_⟩
        · rw [he, ec]
          simp [asBool]
        · subst hb
          exact opnd_ok h x
        · subst hb
          exact opnd_ok h y
      | _ => trivial
    | sl sz n f => trivial
  | _ => trivial

theorem nilCheck_ok (h : Rel W0 g0 g st a w) {x : Operand} (ho : o.op = .nilCheck x) : EfOk P g st a w o (ev T st (.nilCheck x)) := by
  have hx := opnd_ok h x
  simp only [ev]
  have run : ∀ q, a.eval x = .pointer (some q) → (execOp a.eval o).run P w = .ok (.value (.pointer (some q))) w := by
    intro q hq
    unfold execOp
    rw [ho]
    simp only [hq]
    rfl
  cases hq : opnd st x with
  | ref i off =>
    rw [hq] at hx
    have hx' := hx
    simp only [AVal] at hx'
    obtain ⟨b, hb, hv⟩ := hx'
    exact ⟨_, run _ hv, by rw [← hv]; exact hx⟩
  | imm cs off =>
    rw [hq] at hx
    have hx' := hx
    simp only [AVal] at hx'
    obtain ⟨b, o', us, hv, _⟩ := hx'
    exact ⟨_, run _ hv, by rw [← hv]; exact hx⟩
  | _ => trivial

/-- The place of element k of a slice. -/
theorem indexSl_ok {sz n e t : Nat} {f : Nat → List D} {u : Value} {kk : IntKind} {k : Int} {inf : TypeInfo} (h1 : P.underlying t = some (.slice e)) (h2 : P.info? e = some inf) (hsz : inf.size = sz) (h : DVal g.ext w (.sl sz n f) u) (hk : 0 ≤ k ∧ k < (n : Int)) :
    ∃ v, (Instr.indexAt t u (.int kk k)).run P w = .ok v w ∧ AVal g w (.imm (f k.toNat) 0) v := by
  simp only [DVal] at h
  obtain ⟨us, hs, hf⟩ := h
  rcases hs.2 with ⟨_, rfl⟩ | ⟨b, o', c, rfl, hnc, hext, hcell⟩
  · omega
  · have hlt : k.toNat < n := by omega
    have hkn : k < (n : Int) := hk.2
    obtain ⟨hl, hd⟩ := hf k.toNat hlt
    have hmul : (k.toNat + 1) * sz ≤ n * sz := Nat.mul_le_mul_right _ hlt
    rw [Nat.add_mul, Nat.one_mul] at hmul
    refine ⟨.pointer (some ⟨b, o' + k.toNat * sz, none⟩), ?_, ?_⟩
    · have : (⟨b, o', none⟩ : Addr).add (k.toNat * sz) = ⟨b, o' + k.toNat * sz, none⟩ := Addr.add_lit ..
      simp [Instr.indexAt, asIntOf, run_underlying h1, hk.1, hkn, run_sizeOf' (w := w) h2, hsz, this]
    · simp only [AVal]
      refine ⟨b, o' + k.toNat * sz, _, by rw [Nat.add_zero], by rw [hl]; omega, hd, fun i x hx => ?_⟩
      rw [List.getElem?_take] at hx
      split at hx
      · rw [List.getElem?_drop] at hx
        rw [Nat.add_assoc]
        exact hcell _ _ hx
      · cases hx

theorem indexAddr_ok (hT : TOk P T) (h : Rel W0 g0 g st a w) {t : Nat} {x i : Operand} (ho : o.op = .indexAddr t x i) : EfOk P g st a w o (ev T st (.indexAddr t x i)) := by
  have he : execOp a.eval o = (do pure (.value (← Instr.indexAt t (a.eval x) (a.eval i)))) := by unfold execOp; rw [ho]
  have hx := opnd_ok h x
  have hi := opnd_ok h i
  simp only [ev, indexAddrA]
  cases hd : tds T t with
  | none => trivial
  | some ds =>
    cases ds with
    | slice e =>
      obtain ⟨d, inft, h1, _, h3⟩ := tds_some hT hd
      have := dsOf_slice h3
      subst this
      simp only
      cases ht : tget T e with
      | none => trivial
      | some ti =>
        obtain ⟨de, inf, z, k1, k2, k3, rfl⟩ := tinfo_parts (hT e ti ht)
        cases hqi : opnd st i with
        | p di =>
          rw [hqi] at hi
          cases di with
          | v vi =>
            have ei : a.eval i = vi := AVal_pv.1 hi
            cases vi with
            | int kk k =>
              simp only
              cases hqx : opnd st x with
              | p dx =>
                cases dx with
                | sl sz n f =>
                  simp only
                  cases hb : Nat.beq sz inf.size with
                  | false => trivial
                  | true =>
                    intro hk
                    rw [hqx] at hx
                    obtain ⟨v, r1, r2⟩ := indexSl_ok (kk := kk) h1 k2 (Nat.eq_of_beq_eq_true hb).symm (by simpa only [AVal] using hx) hk
                    exact ⟨v, exec_v he (by rw [ei]; exact r1), r2⟩
                | v _ => trivial
              | own q e' sz n f =>
                simp only
                cases hb : Nat.beq sz inf.size with
                | false => trivial
                | true =>
                  intro hk
                  rw [hqx] at hx
                  simp only [AVal] at hx
                  obtain ⟨v, r1, r2⟩ := indexSl_ok (kk := kk) h1 k2 (Nat.eq_of_beq_eq_true hb).symm hx.2.1 hk
                  exact ⟨v, exec_v he (by rw [ei]; exact r1), r2⟩
              | _ => trivial
            | _ => trivial
          | sl _ _ _ => trivial
        | _ => trivial
    | arr n e =>
      obtain ⟨d, inft, h1, _, h3⟩ := tds_some hT hd
      have := dsOf_arr h3
      subst this
      simp only
      cases ht : tget T e with
      | none => trivial
      | some ti =>
        obtain ⟨de, inf, z, k1, k2, k3, rfl⟩ := tinfo_parts (hT e ti ht)
        cases hqi : opnd st i with
        | p di =>
          rw [hqi] at hi
          cases di with
          | v vi =>
            have ei : a.eval i = vi := AVal_pv.1 hi
            cases vi with
            | int kk k =>
              simp only
              cases hqx : opnd st x with
              | ref j off =>
                rw [hqx] at hx
                simp only [AVal] at hx
                obtain ⟨b, hb, hv⟩ := hx
                intro hk
                have : (⟨b, off, none⟩ : Addr).add (k.toNat * inf.size) = ⟨b, off + k.toNat * inf.size, none⟩ := Addr.add_lit ..
                refine ⟨.pointer (some ⟨b, off + k.toNat * inf.size, none⟩), exec_v he ?_, by simp only [AVal]; exact ⟨b, hb, rfl⟩⟩
                rw [ei, hv]
                simp [Instr.indexAt, Instr.sureAddr, asIntOf, run_underlying h1, hk.1, hk.2, run_sizeOf' (w := w) k2, this]
              | _ => trivial
            | _ => trivial
          | sl _ _ _ => trivial
        | _ => trivial
    | _ => trivial

theorem index_ok (hT : TOk P T) (h : Rel W0 g0 g st a w) {t : Nat} {x i : Operand} (ho : o.op = .index t x i) : EfOk P g st a w o (ev T st (.index t x i)) := by
  have he : execOp a.eval o = (do pure (.value (← Instr.index t (a.eval x) (a.eval i)))) := by unfold execOp; rw [ho]
  have hx := opnd_ok h x
  have hi := opnd_ok h i
  simp only [ev, indexA]
  cases hqx : opnd st x with
  | agg cs =>
    rw [hqx] at hx
    cases hqi : opnd st i with
    | p di =>
      rw [hqi] at hi
      cases di with
      | v vi =>
        have ei : a.eval i = vi := AVal_pv.1 hi
        cases vi with
        | int kk k =>
          simp only
          cases hd : tds T t with
          | none => trivial
          | some ds =>
            cases ds with
            | arr n e =>
              obtain ⟨d, inft, h1, _, h3⟩ := tds_some hT hd
              have := dsOf_arr h3
              subst this
              simp only
              cases hte : tget T e with
              | none => trivial
              | some te =>
                obtain ⟨de, infe, ze, q1, q2, q3, rfl⟩ := tinfo_parts (hT e te hte)
                simp only
                cases hlen : Nat.beq (lenA cs) (n * infe.size) with
                | false => trivial
                | true =>
                  cases hl : elemA cs infe.size n k.toNat infe.size 0 with
                  | none => trivial
                  | some l =>
                    simp only
                    have hcs : cs.length = n * infe.size := by rw [← lenA_eq]; exact Nat.eq_of_beq_eq_true hlen
                    simp only [AVal] at hx
                    obtain ⟨us, hu, hx⟩ := hx
                    have hul := hx.length
                    rw [Array.length_toList] at hul
                    have cells : 0 ≤ k ∧ k < (n : Int) → AVals g w l ((us.toList.drop (k.toNat * infe.size)).take infe.size) := by
                      intro hk
                      have hlt : k.toNat < n := by omega
                      obtain ⟨g1, g2⟩ := elemA_get hlt hl
                      have hmul : (k.toNat + 1) * infe.size ≤ n * infe.size := Nat.mul_le_mul_right _ hlt
                      rw [Nat.add_mul, Nat.one_mul] at hmul
                      have : l = (cs.drop (k.toNat * infe.size)).take infe.size := by
                        apply List.ext_getElem?
                        intro j
                        rcases Nat.lt_or_ge j infe.size with hj | hj
                        · rw [g2 j hj, List.getElem?_take, if_pos hj, List.getElem?_drop, Nat.zero_add]
                          exact (getA_eq (by omega)).symm
                        · rw [List.getElem?_eq_none (by omega), List.getElem?_take, if_neg (by omega)]
                      rw [this]
                      exact (hx.drop _).take _
                    have run : ∀ v, (part e us (k.toNat * infe.size)).run P w = .ok v w → 0 ≤ k ∧ k < (n : Int) → (execOp a.eval o).run P w = .ok (.value v) w := by
                      intro v hv hk
                      refine exec_v he ?_
                      rw [hu, ei]
                      have hk2 : k < (n : Int) := hk.2
                      simp [Instr.index, asIntOf, run_underlying h1, hk.1, hk2, run_sizeOf' (w := w) q2, hv]
                    cases hag : (⟨dsOf de, infe.size, infe.bytes, ze.cells.toList⟩ : TI).agg with
                    | true =>
                      intro hk
                      refine ⟨.agg (us.extract (k.toNat * infe.size) (k.toNat * infe.size + infe.size)), run _ ?_ hk, ?_⟩
                      · simp [part, run_isAgg (w := w) q1 (s := infe.size) (b := infe.bytes) (z := ze.cells.toList), hag, sizeOf, typeInfo, q2]
                      · simp only [AVal]
                        refine ⟨_, rfl, ?_⟩
                        have : (us.extract (k.toNat * infe.size) (k.toNat * infe.size + infe.size)).toList = (us.toList.drop (k.toNat * infe.size)).take infe.size := by
                          rw [Array.toList_extract, List.extract_eq_take_drop]
                          simp
                        rw [this]
                        exact cells hk
                    | false =>
                      cases l with
                      | nil => trivial
                      | cons y l' =>
                        cases l' with
                        | cons _ _ => trivial
                        | nil =>
                          intro hk
                          have hc := cells hk
                          simp only [AVals] at hc
                          obtain ⟨u, us', e1, e2, e3⟩ := hc
                          refine ⟨u, run u ?_ hk, e2⟩
                          have hu' : us[k.toNat * infe.size]? = some u := by
                            have h5 := congrArg List.head? e1
                            rw [List.head?_take, List.head?_drop, Array.getElem?_toList] at h5
                            split at h5
                            · cases h5
                            · simpa using h5
                          simp [part, run_isAgg (w := w) q1 (s := infe.size) (b := infe.bytes) (z := ze.cells.toList), hag, hu']
            | _ => trivial
        | _ => trivial
      | sl _ _ _ => trivial
    | _ => trivial
  | p dx =>
    rw [hqx] at hx
    cases dx with
    | v vx =>
      have ex : a.eval x = vx := AVal_pv.1 hx
      cases vx with
      | string s =>
        cases hqi : opnd st i with
        | p di =>
          rw [hqi] at hi
          cases di with
          | v vi =>
            have ei : a.eval i = vi := AVal_pv.1 hi
            cases vi with
            | int kk k =>
              simp only
              cases hd : tds T t with
              | none => trivial
              | some ds =>
                cases ds with
                | str =>
                  obtain ⟨d, inft, h1, _, h3⟩ := tds_some hT hd
                  have := dsOf_str h3
                  subst this
                  intro hk
                  refine ⟨.int .u8 (bAt s k), exec_v he ?_, by simp [vA, AVal, DVal]⟩
                  have hlt : k.toNat < s.size := by omega
                  have e1 : s[k.toNat]? = some (s.data.getD k.toNat 0) := by
                    rw [getElem?_pos s k.toNat hlt, Array.getD_eq_getD_getElem?]
                    have : s.data[k.toNat]? = some s.data[k.toNat] := Array.getElem?_eq_getElem hlt
                    rw [this]
                    rfl
                  rw [ex, ei]
                  simp [Instr.index, asIntOf, run_underlying h1, hk.1, e1, bAt]
                | _ => trivial
            | _ => trivial
          | sl _ _ _ => trivial
        | _ => trivial
      | _ => trivial
    | sl _ _ _ => trivial
  | _ => trivial
end
end Go.Proofs.YtijakklhklcjhaaA
