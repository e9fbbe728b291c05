/- A function's contract out of the walk over its body. -/
import Derived.Test.YtijakklhklcjhaaAb17
namespace Go.Proofs.YtijakklhklcjhaaA
open Go Go.RowKit
set_option linter.unusedVariables false
set_option linter.unusedSimpArgs false

def argSl : List A → Nat → List (Nat × A)
  | [], _ => []
  | x :: xs, i => (i, x) :: argSl xs (i + 1)

theorem argSl_get : ∀ (l : List A) (i d : Nat) (x : A), lk (argSl l i) d = x → x = .dead ∨ ∃ j, d = i + j ∧ l[j]? = some x
  | [], i, d, x, h => by
    simp only [argSl, lk] at h
    exact .inl h.symm
  | y :: l, i, d, x, h => by
    simp only [argSl, lk] at h
    cases hb : Nat.beq i d with
    | true =>
      rw [hb] at h
      have := Nat.eq_of_beq_eq_true hb
      subst this
      exact .inr ⟨0, rfl, by simpa using h⟩
    | false =>
      rw [hb] at h
      rcases argSl_get l (i + 1) d x h with h | ⟨j, h1, h2⟩
      · exact .inl h
      · exact .inr ⟨j + 1, by omega, by simpa using h2⟩

/-- What a function hands back. -/
def resA (T : TT) (st : St) : List ResultVar → Option (List A)
  | [] => some []
  | .tmp t :: l => match resA T st l with
    | some r => some (st.get t :: r)
    | none => none
  | .cell q t :: l => match st.get q, resA T st l with
    | .ref o off, some r => match obGet st.objs o with
      | .cells cs => match rdA T t cs off with
        | some x => some (x :: r)
        | none => none
      | _ => none
    | _, _ => none
def retA (T : TT) (st : St) (rs : List ResultVar) : Option A := match resA T st rs with
  | some [x] => some x
  | some xs => some (.tup xs)
  | none => none

/-- The end of a walk: what is handed back, the objects and rows that the caller sees. -/
structure Fin (T : TT) (rs : List ResultVar) (Q : A → List Ob → List Bool → Prop) (st : St) (m : List Nat) (tl : List (Option Nat)) (r : A) (obs' : List Ob) (tags' : List Bool) : Prop where
  pre : ∀ i, i < st.n0 → m[i]? = some i
  ret : ∃ x, retA T st rs = some x ∧ le m tl x r
  hp : LeHp m tl st.objs st.tags obs' tags'
  q : Q r obs' tags'

def kfin (T : TT) (rs : List ResultVar) (Q : A → List Ob → List Bool → Prop) : Ex → St → Rs
  | .exit _, _ => .fail
  | _, st => .goal (∃ m tl r obs' tags', Fin T rs Q st m tl r obs' tags')

section
variable {P : Program} {T : TT} {cuts : List Nat}

def resF (a : Act) (r : ResultVar) : Sem Value := match r with
  | .tmp t => pure (a.tmps.getD t undef)
  | .cell q t => do loadVar t (← asAddr (a.tmps.getD q undef))

theorem resA_ok (hT : TOk P T) {W0 : World} {g0 g : Gh} {st : St} {a : Act} {w : World} (h : Rel W0 g0 g st a w) : ∀ {l : List ResultVar} {xs : List A}, resA T st l = some xs →
    ∃ vs : List Value, (l.mapM (resF a)).run P w = .ok vs w ∧ AVals g w xs vs
  | [], xs, hr => by
    simp only [resA, Option.some.injEq] at hr
    subst hr
    exact ⟨[], by simp, by simp [AVals]⟩
  | .tmp t :: l, xs, hr => by
    simp only [resA] at hr
    cases hl : resA T st l with
    | none => simp [hl] at hr
    | some r =>
      simp only [hl, Option.some.injEq] at hr
      subst hr
      obtain ⟨vs, h1, h2⟩ := resA_ok hT h hl
      refine ⟨a.tmps.getD t undef :: vs, ?_, ?_⟩
      · simp only [List.mapM_cons, resF, Sem.run_bind, Sem.run_pure, Result.andThen_ok, h1]
      · simp only [AVals]
        exact ⟨_, _, rfl, opnd_ok h (.tmp t), h2⟩
  | .cell q t :: l, xs, hr => by
    simp only [resA] at hr
    cases hq : st.get q with
    | ref o off =>
      cases hl : resA T st l with
      | none => simp [hq, hl] at hr
      | some r =>
        simp only [hq, hl] at hr
        cases ho : obGet st.objs o with
        | cells cs =>
          simp only [ho] at hr
          cases hx : rdA T t cs off with
          | none => simp [hx] at hr
          | some x =>
            simp only [hx, Option.some.injEq] at hr
            subst hr
            obtain ⟨vs, h1, h2⟩ := resA_ok hT h hl
            have hv := opnd_ok h (.tmp q)
            simp only [opnd, hq, AVal, Act.eval] at hv
            obtain ⟨b, hb, hv⟩ := hv
            obtain ⟨us, U, k1, k2, k3⟩ := obCells h ho hb
            obtain ⟨v, r1, r2⟩ := rdA_ok (P := P) (w := w) (b := b) (o' := 0) hT k2 hx (fun i v hv => by rw [Nat.zero_add]; exact cell_row k1 i v hv)
            rw [Nat.zero_add] at r1
            refine ⟨v :: vs, ?_, ?_⟩
            · have e : (loadVar t ⟨b, off, none⟩).run P w = .ok v w := by
                simpa [Instr.loadAt, Instr.sureAddr] using r1
              simp only [List.mapM_cons, resF, Sem.run_bind, Sem.run_pure, Result.andThen_ok, hv, asAddr, e, h1]
            · simp only [AVals]
              exact ⟨_, _, rfl, r2, h2⟩
        | dead => simp [ho] at hr
        | iter s p => simp [ho] at hr
    | _ => simp [hq] at hr

theorem retA_ok (hT : TOk P T) {W0 : World} {g0 g : Gh} {st : St} {a : Act} {w : World} (h : Rel W0 g0 g st a w) {fn : Func} {x : A} (hr : retA T st fn.results.toList = some x) : ∃ v, (results fn a.tmps).run P w = .ok v w ∧ AVal g w x v := by
  unfold retA at hr
  cases hx : resA T st fn.results.toList with
  | none => simp [hx] at hr
  | some xs =>
    obtain ⟨vs, h1, h2⟩ := resA_ok hT h hx
    have hl := h2.length
    have hrun : (fn.results.mapM (resF a)).run P w = .ok vs.toArray w := by
      rw [Array.mapM_eq_mapM_toList]
      simp [h1]
    rw [hx] at hr
    refine ⟨if h : vs.toArray.size = 1 then vs.toArray[0] else .tuple vs.toArray, ?_, ?_⟩
    · have e : results fn a.tmps = (do
          let vs ← fn.results.mapM (resF a)
          pure (if h : vs.size = 1 then vs[0] else .tuple vs)) := rfl
      rw [e, Sem.run_bind, hrun, Result.andThen_ok, Sem.run_pure]
    · cases xs with
      | nil =>
        simp only [Option.some.injEq] at hr
        subst hr
        have : vs = [] := List.eq_nil_of_length_eq_zero hl
        subst this
        simp only [AVal]
        exact ⟨#[], rfl, by simp [AVals]⟩
      | cons y ys =>
        cases ys with
        | nil =>
          simp only [Option.some.injEq] at hr
          subst hr
          simp only [AVals] at h2
          obtain ⟨u, us', rfl, k1, rfl⟩ := h2
          simpa using k1
        | cons z zs =>
          simp only [Option.some.injEq] at hr
          subst hr
          simp only [List.length_cons] at hl
          rw [dif_neg (by simp; omega)]
          simp only [AVal]
          exact ⟨_, rfl, h2⟩

def argK : List A → Nat → (List (Nat × A) → Rs) → Rs
  | [], _, c => c []
  | x :: xs, i, c => frc x (fun x => natK i fun i => argK xs (i + 1) (fun l => c ((i, x) :: l)))
theorem argK_eq : ∀ (l : List A) (i : Nat) (c : List (Nat × A) → Rs), argK l i c = c (argSl l i)
  | [], i, c => rfl
  | x :: xs, i, c => by simp [argK, argSl, frc_eq, natK_eq, argK_eq xs]

theorem Spec.of_awp (hT : TOk P T) {f : FuncId} {fn : Func} {body : Code} (hf : P.funcs[f]? = some fn) {n : Nat} (hn : fn.ntmps = n) {rs : Array ResultVar} (hrs : fn.results = rs) (hb : fn.body = some body) {args : List A} {obs : List Ob} {tags : List Bool} {Q : A → List Ob → List Bool → Prop} (hlen : Nat.ble args.length n = true)
    (h : ∀ W0 g0, awp P W0 g0 body (fun e st => Sat P T cuts (kfin T rs.toList Q e st)) ⟨n, lenO obs, argSl args 0, obs, tags⟩) : Spec P f args obs tags Q := by
  subst hn
  subst hrs
  intro g vs w hp hv
  have hvl : vs.size = args.length := by
    have := hv.length
    rwa [Array.length_toList] at this
  have hle := Nat.le_of_ble_eq_true hlen
  refine calls_of_wp hf hb ?_
  have hrel : Rel w g g ⟨fn.ntmps, lenO obs, argSl args 0, obs, tags⟩ { tmps := vs ++ Array.replicate (fn.ntmps - vs.size) undef, defers := [] } w := by
    refine ⟨rfl, by simp; omega, fun d u hu => ?_, hp, Grew.refl w g, by rw [lenO_eq]; exact hp.nob, fun _ _ h => h⟩
    simp only [St.get]
    cases hbt : Nat.blt d fn.ntmps with
    | false => simp [AVal]
    | true =>
      simp only
      rcases argSl_get args 0 d _ rfl with h | ⟨j, h1, h2⟩
      · rw [h]
        simp [AVal]
      · rw [Nat.zero_add] at h1
        subst h1
        obtain ⟨u', k1, k2⟩ := hv.get h2
        have hlt : d < vs.size := by
          rw [hvl]
          exact (List.getElem?_eq_some_iff.1 h2).1
        simp only at hu
        rw [Array.getElem?_append_left hlt] at hu
        rw [Array.getElem?_toList, hu] at k1
        cases k1
        exact k2
  refine wp_mono (h w g g _ w hrel) ?_
  have fin : ∀ a' w', (∃ g' st', Sat P T cuts (.goal (∃ m tl r obs' tags', Fin T fn.results.toList Q st' m tl r obs' tags')) ∧ Rel w g g' st' a' w') → a'.defers = [] ∧ ∃ v, (results fn a'.tmps).run P w' = .ok v w' ∧ ∃ r obs' tags' g' u, Ending.returned v = .returned u ∧ Q r obs' tags' ∧ AVal g' w' r u ∧ Hp g' obs' tags' w' ∧ Grew w g w' g' ∧ ∀ (i b : Nat), g.blks[i]? = some b → g'.blks[i]? = some b := by
    rintro a' w' ⟨g', st', s, r⟩
    obtain ⟨m, tl, r0, obs', tags', hfin⟩ := s.goal_inv
    obtain ⟨x, hx1, hx2⟩ := hfin.ret
    obtain ⟨v, k1, k2⟩ := retA_ok hT r hx1
    have hg := hfin.hp.good r.hp
    refine ⟨r.defs, v, k1, r0, obs', tags', g'.re m tl, v, rfl, hfin.q, AVal_le hg _ _ _ hx2 k2, r.hp.re hfin.hp, r.grew.re hg, fun i b hi => ?_⟩
    have hlt : i < st'.n0 := by rw [← r.n0]; exact (List.getElem?_eq_some_iff.1 hi).1
    rw [re_blks hg (hfin.pre i hlt)]
    exact r.pre i b hi
  intro e a' w' hq
  cases e with
  | normal => exact fin a' w' hq
  | ret => exact fin a' w' hq
  | exit id =>
    obtain ⟨g', st', s, _⟩ := hq
    cases s
  | goto l => exact hq.elim
  | panic c => exact hq.elim
  | outgrown => exact hq.elim

theorem awp_mono {W0 : World} {g0 : Gh} {c : Code} {Q Q' : Ex → St → Prop} {st : St} (h : ∀ e st, Q e st → Q' e st) (k : awp P W0 g0 c Q st) : awp P W0 g0 c Q' st :=
  fun g a w r => wp_mono (k g a w r) (lift_mono h)
end
end Go.Proofs.YtijakklhklcjhaaA
