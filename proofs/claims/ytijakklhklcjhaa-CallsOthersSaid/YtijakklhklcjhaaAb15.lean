/- A walk's steps hold of the machine. -/
import Derived.Test.YtijakklhklcjhaaAb13
namespace Go.Proofs.YtijakklhklcjhaaA
open Go Go.RowKit
set_option linter.unusedVariables false
set_option linter.unusedSimpArgs false

def lift (W0 : World) (g0 : Gh) (Q : Ex → St → Prop) : Exit → Act → World → Prop
  | .normal, a, w => ∃ g st, Q .normal st ∧ Rel W0 g0 g st a w
  | .exit id, a, w => ∃ g st, Q (.exit id) st ∧ Rel W0 g0 g st a w
  | .ret, a, w => ∃ g st, Q .ret st ∧ Rel W0 g0 g st a w
  | _, _, _ => False

theorem lift_mono {W0 : World} {g0 : Gh} {Q Q' : Ex → St → Prop} (h : ∀ e st, Q e st → Q' e st) : ∀ e a w, lift W0 g0 Q e a w → lift W0 g0 Q' e a w
  | .normal, a, w, ⟨g, st, h1, h2⟩ => ⟨g, st, h _ _ h1, h2⟩
  | .exit id, a, w, ⟨g, st, h1, h2⟩ => ⟨g, st, h _ _ h1, h2⟩
  | .ret, a, w, ⟨g, st, h1, h2⟩ => ⟨g, st, h _ _ h1, h2⟩
  | .goto l, a, w, h' => h'.elim
  | .panic c, a, w, h' => h'.elim
  | .outgrown, a, w, h' => h'.elim

section
variable {P : Program} {T : TT} {W0 : World} {g0 : Gh} {cuts : List Nat}

theorem Own.run {f : FuncId} (h : Own P f) (vs : Array Value) (w : World) : (callFunc f vs).run P w = .ok (.enter f vs) w := by
  obtain ⟨fn, h1, h2, h3⟩ := h.is
  have h4 : ¬ fn.name = "runtime.NumGoroutine" := by simpa using h3
  have h5 : ¬ fn.body = none := by
    intro e
    rw [e] at h2
    cases h2
  simp [callFunc, program, h1, h2, h4, Sem.run, bind, pure, Sem.bind]
  exact fun e => absurd e h5

theorem stepE_sound (hT : TOk P T) {g : Gh} {st : St} {a : Act} {w : World} {o : Oper} {k : St → Rs} (h : Rel W0 g0 g st a w) (hs : Sat P T cuts (stepE T st o k)) {K : Act → World → Prop} {Q : Exit → Act → World → Prop}
    (hK : ∀ g' st' a' w', Rel W0 g0 g' st' a' w' → Sat P T cuts (k st') → K a' w') : o.wp P a w K Q := by
  have he := ev_ok (o := o) hT h
  unfold stepE stepG at hs
  simp only [putK_eq, frcs_eq, snocO_eq, setO_eq, snocB_eq, killB_eq, natK_eq] at hs
  unfold Oper.wp
  cases hev : ev T st o.op with
  | no => rw [hev] at hs; cases hs
  | val x =>
    rw [hev] at hs he
    obtain ⟨v, h1, h2⟩ := he
    rw [h1]
    exact hK _ _ _ _ (h.put o.dst h2) hs
  | valn c x =>
    rw [hev] at hs he
    cases hs with
    | need hc hk =>
      obtain ⟨v, h1, h2⟩ := he hc
      rw [h1]
      exact hK _ _ _ _ (h.put o.dst h2) hk
  | splt b x y =>
    rw [hev] at hs he
    obtain ⟨v, h1, h2, h3⟩ := he
    rw [h1]
    cases hs with
    | split s1 s2 =>
      cases hb : b with
      | true => exact hK _ _ _ _ (h.put o.dst (h2 hb)) (s1 hb)
      | false => exact hK _ _ _ _ (h.put o.dst (h3 hb)) (s2 hb)
  | new cs =>
    rw [hev] at hs he
    obtain ⟨us, U, h1, h2, h3⟩ := he
    rw [h1]
    obtain ⟨r1, r2⟩ := h.new (U := U) h2 h3
    refine hK _ _ _ _ (r1.put o.dst ?_) hs
    rw [lenO_eq]
    exact r2
  | set i cs =>
    rw [hev] at hs he
    obtain ⟨b, us, U, w', h1, h2, h3, h4, h5, h6, h7, h8, h9, h10, h11⟩ := he
    rw [h3]
    exact hK _ _ _ _ ((h.set h1 h2 h4 h5 h6 h7 h8 h9 h10 h11).put o.dst (by simp [AVal])) hs
  | row c kill e sz n f =>
    rw [hev] at hs he
    cases hs with
    | need hc hk =>
      obtain ⟨v, w', us, h1, h2, h3, h4, h5, h6, h7, h8, h9, h10⟩ := he hc
      rw [h1]
      obtain ⟨g', r1, r2⟩ := h.row h2 h3 h4 h5 h6 h7 h8 h9 h10
      refine hK _ _ _ _ (r1.put o.dst ?_) hk
      rw [lenB_eq]
      exact r2
  | bld sz n f =>
    rw [hev] at hs he
    obtain ⟨us, U, h1, h2, h3⟩ := he
    rw [h1]
    obtain ⟨g', r1, r2⟩ := h.bld (U := U) h2 h3
    exact hK _ _ _ _ (r1.put o.dst r2) hs
  | call f xs =>
    rw [hev] at hs he
    obtain ⟨vs, h1, h2⟩ := he
    cases hs with
    | call own m tl sp hle hh next =>
      rw [h1, own.run]
      have hg := hh.good h.hp
      refine (sp (g.re m tl) vs w (h.hp.re hh) (AVals_le hg _ _ _ hle h2)).mono ?_
      rintro e w' ⟨r, obs', tags', g', u, rfl, hq, hr, hp', hgr, hpre⟩
      have cd := h.hp.called hh hp' hgr hpre
      refine hK (g.join m tl g') _ _ w' ?_ (by have := next r obs' tags' hq; rwa [backK_eq] at this)
      have e1 : g.blks.length = lenO st.objs := by rw [lenO_eq, h.hp.nob]
      have e2 : g.alive.length = lenB st.tags := by rw [lenB_eq, h.hp.tag]
      have := h.later (st' := { st with objs := upd st.objs m (bkObs m (lenO st.objs) (lenB st.tags) obs'), tags := tcat (die st.tags tl) tags' }) cd.later cd.step rfl rfl (by rw [← e1, ← e2]; exact cd.hp)
      refine this.put o.dst ?_
      rw [← e1, ← e2]
      exact cd.val r u hr

theorem dstAt_eq : ∀ (l : List Oper) (j : Nat), dstAt l j = (l[j]?).bind (·.dst)
  | [], j => by simp [dstAt]
  | o :: l, 0 => by simp [dstAt]
  | o :: l, j + 1 => by simp [dstAt, dstAt_eq l j]

/-- A slot whose value is known better. -/
theorem Rel.know {g : Gh} {st : St} {a : Act} {w : World} (h : Rel W0 g0 g st a w) {d : Nat} {x : A} (hx : ∀ u, a.tmps[d]? = some u → AVal g w x u) : Rel W0 g0 g (st.put (some d) x) a w := by
  refine ⟨h.defs, h.size, fun i u hu => ?_, h.hp, h.grew, h.n0, h.pre⟩
  rw [put_get]
  split
  · rename_i hc
    obtain ⟨h1, _⟩ := hc
    cases h1
    exact hx u hu
  · exact h.slot i u hu

theorem execOps_sound (hT : TOk P T) {ops : Array Oper} {k : St → Rs} {Q : Exit → Act → World → Prop} (hQ : ∀ g st a w, Rel W0 g0 g st a w → Sat P T cuts (k st) → Q .normal a w) :
    ∀ (l : List Oper) (g : Gh) (st : St) (a : Act) (w : World), Rel W0 g0 g st a w → Sat P T cuts (execOps T ops.toList l st k) → wpList P ops Q l a w
  | [], g, st, a, w, h, hs => hQ g st a w h hs
  | o :: rest, g, st, a, w, h, hs => by
    have ih := execOps_sound hT (ops := ops) (k := k) hQ rest
    simp only [execOps, stepO, putK_eq] at hs
    cases hgd : o.guard with
    | none =>
      rw [hgd] at hs
      unfold wpList
      rw [if_pos (by simp [Region.wanted, hgd])]
      exact .inl (stepE_sound hT h hs fun g' st' a' w' r s => ih g' st' a' w' r s)
    | some q =>
      obtain ⟨j, want⟩ := q
      rw [hgd] at hs
      simp only at hs
      cases hd : dstAt ops.toList j with
      | none => rw [hd] at hs; cases hs
      | some d =>
        rw [hd] at hs
        simp only at hs
        rw [dstAt_eq, Array.getElem?_toList] at hd
        cases hgt : st.get d with
        | p dd =>
          cases dd with
          | v vv =>
            cases vv with
            | bool b =>
              rw [hgt] at hs
              simp only at hs
              have hdn : d < st.n := by
                rcases Nat.lt_or_ge d st.n with hl | hl
                · exact hl
                · have : st.get d = .dead := by
                    simp only [St.get]
                    have e : Nat.blt d st.n = false := by
                      cases hb : Nat.blt d st.n with
                      | false => rfl
                      | true =>
                        have := (by simpa [Nat.blt_eq] using hb : d < st.n)
                        omega
                    rw [e]
                  rw [this] at hgt
                  cases hgt
              have htm : a.tmps[d]? = some (.bool b) := by
                have hlt : d < a.tmps.size := by rw [h.size]; exact hdn
                have e := Array.getElem?_eq_getElem hlt
                have := h.slot d _ e
                rw [hgt] at this
                rw [e, AVal_pv.1 this]
              have hy : yielded ops a.tmps j = some b := by
                simp only [yielded, hd, Option.bind_some, htm]
              have hw : Region.wanted o (yielded ops a.tmps) = (b == want) := by
                simp only [Region.wanted, hgd, hy]
                cases b <;> cases want <;> rfl
              have hk : ∀ c, b = c → Rel W0 g0 g (st.put (some d) (vA (.bool c))) a w := by
                rintro c rfl
                refine h.know fun u hu => ?_
                rw [htm] at hu
                cases hu
                simp [vA, AVal, DVal]
              unfold wpList
              rw [hw]
              cases hs with
              | split s1 s2 =>
                cases b with
                | true =>
                  have s := s1 rfl
                  cases want with
                  | true => exact .inl (stepE_sound hT (hk true rfl) s fun g' st' a' w' r s => ih g' st' a' w' r s)
                  | false => exact ih _ _ _ _ ((hk true rfl).put o.dst (by simp [undA, AVal, DVal, undef])) s
                | false =>
                  have s := s2 rfl
                  cases want with
                  | true => exact ih _ _ _ _ ((hk false rfl).put o.dst (by simp [undA, AVal, DVal, undef])) s
                  | false => exact .inl (stepE_sound hT (hk false rfl) s fun g' st' a' w' r s => ih g' st' a' w' r s)
            | tuple vs =>
              rw [hgt] at hs
              simp only at hs
              have hdn : d < st.n := by
                rcases Nat.lt_or_ge d st.n with hl | hl
                · exact hl
                · have : st.get d = .dead := by
                    simp only [St.get]
                    have e : Nat.blt d st.n = false := by
                      cases hb : Nat.blt d st.n with
                      | false => rfl
                      | true =>
                        have := (by simpa [Nat.blt_eq] using hb : d < st.n)
                        omega
                    rw [e]
                  rw [this] at hgt
                  cases hgt
              have htm : a.tmps[d]? = some (.tuple vs) := by
                have hlt : d < a.tmps.size := by rw [h.size]; exact hdn
                have e := Array.getElem?_eq_getElem hlt
                have := h.slot d _ e
                rw [hgt] at this
                rw [e, AVal_pv.1 this]
              have hy : yielded ops a.tmps j = none := by
                simp only [yielded, hd, Option.bind_some, htm]
              have hw : Region.wanted o (yielded ops a.tmps) = false := by
                simp only [Region.wanted, hgd, hy]
                cases want <;> rfl
              unfold wpList
              rw [hw]
              exact ih _ _ _ _ (h.put o.dst (by simp [undA, AVal, DVal, undef])) hs
            | _ => rw [hgt] at hs; cases hs
          | sl _ _ _ => rw [hgt] at hs; cases hs
        | _ => rw [hgt] at hs; cases hs

end
end Go.Proofs.YtijakklhklcjhaaA
