/- A function's contract out of the walk over its body: what it hands back, and the objects that its caller sees, reckoned. -/
import Derived.Test.YtijakklhklcjhaaAb14
namespace Go.Proofs.YtijakklhklcjhaaA
open Go Go.RowKit
set_option linter.unusedVariables false
set_option linter.unusedSimpArgs false

def idxN : List Nat → Nat → Option Nat
  | [], _ => none
  | x :: l, o => match Nat.beq x o with
    | true => some 0
    | false => match idxN l o with
      | some i => some (i + 1)
      | none => none

/-- A value as the caller sees it: objects by their places in m, rows by theirs in tl. -/
def outK (m tl : List Nat) : A → (A → Rs) → Rs
  | .dead, c => c .dead
  | .p x, c => frcD x (fun x => c (.p x))
  | .agg cs, c => outs m tl cs (fun cs => c (.agg cs))
  | .tup cs, c => outs m tl cs (fun cs => c (.tup cs))
  | .fn f cs, c => outs m tl cs (fun cs => c (.fn f cs))
  | .ref o off, c => match idxN m o with
    | some i => c (.ref i off)
    | none => .fail
  | .sref o off n, c => match idxN m o with
    | some i => c (.sref i off n)
    | none => .fail
  | .imm cs off, c => c (.imm cs off)
  | .own t e sz n f, c => match idxN tl t with
    | some i => c (.own i e sz n f)
    | none => c (.p (.sl sz n f))
where outs (m tl : List Nat) : List A → (List A → Rs) → Rs
  | [], c => c []
  | x :: xs, c => outK m tl x (fun x => outs m tl xs (fun xs => c (x :: xs)))
def outOb (m tl : List Nat) : Ob → (Ob → Rs) → Rs
  | .dead, c => c .dead
  | .cells cs, c => outK.outs m tl cs (fun cs => c (.cells cs))
  | .iter s p, c => c (.iter s p)
def outObs (m tl : List Nat) (objs : List Ob) : List Nat → (List Ob → Rs) → Rs
  | [], c => c []
  | o :: l, c => outOb m tl (obGet objs o) (fun x => outObs m tl objs l (fun xs => c (x :: xs)))

def preB : Nat → Nat → List Nat → Bool
  | 0, _, _ => true
  | n + 1, i, m => match m with
    | [] => false
    | x :: m => match Nat.beq x i with
      | true => preB n (i + 1) m
      | false => false
def nodB : List Nat → Bool
  | [] => true
  | x :: l => match memN l x with
    | true => false
    | false => nodB l
def ltB (n : Nat) : List Nat → Bool
  | [] => true
  | x :: l => match Nat.blt x n with
    | true => ltB n l
    | false => false
def getB : List Bool → Nat → Bool
  | [], _ => false
  | x :: _, 0 => x
  | _ :: l, i + 1 => getB l i
def alB (ts : List Bool) : List Nat → Bool
  | [] => true
  | x :: l => match getB ts x with
    | true => alB ts l
    | false => false
def trues : List Nat → List Bool
  | [] => []
  | _ :: l => true :: trues l

def kfinM (T : TT) (rs : List ResultVar) (m tl : List Nat) (Q : A → List Ob → List Bool → Prop) : Ex → St → Rs
  | .exit _, _ => .fail
  | _, st => match retA T st rs with
    | none => .fail
    | some x => match preB st.n0 0 m, nodB m, ltB (lenO st.objs) m, nodB tl, alB st.tags tl with
      | true, true, true, true, true => outK m tl x (fun r => outObs m tl st.objs m (fun obs' => .goal (Q r obs' (trues tl))))
      | _, _, _, _, _ => .fail

section
variable {P : Program} {T : TT} {cuts : List Nat}

theorem idxN_some : ∀ {m : List Nat} {o i : Nat}, idxN m o = some i → m[i]? = some o
  | [], o, i, h => by simp [idxN] at h
  | x :: m, o, i, h => by
    simp only [idxN] at h
    cases hb : Nat.beq x o with
    | true =>
      rw [hb] at h
      cases h
      have := Nat.eq_of_beq_eq_true hb
      simp [this]
    | false =>
      rw [hb] at h
      cases hr : idxN m o with
      | none => simp [hr] at h
      | some j =>
        simp only [hr, Option.some.injEq] at h
        subst h
        simpa using idxN_some hr

theorem leD_refl : ∀ (x : D), leD x x
  | .v x => by simp [leD]
  | .sl sz n f => by simp [leD]

mutual
theorem outK_ok (m tl : List Nat) : ∀ (x : A) (c : A → Rs), Sat P T cuts (outK m tl x c) → ∃ r, le m (tl.map some) x r ∧ Sat P T cuts (c r)
  | .dead, c, h => ⟨.dead, by simp [le], h⟩
  | .p x, c, h => by
    simp only [outK, frcD_eq] at h
    exact ⟨.p x, by simp only [le]; exact leD_refl x, h⟩
  | .agg cs, c, h => by
    obtain ⟨r, h1, h2⟩ := outs_ok m tl cs _ h
    exact ⟨.agg r, by simpa only [le] using h1, h2⟩
  | .tup cs, c, h => by
    obtain ⟨r, h1, h2⟩ := outs_ok m tl cs _ h
    exact ⟨.tup r, by simpa only [le] using h1, h2⟩
  | .fn f cs, c, h => by
    obtain ⟨r, h1, h2⟩ := outs_ok m tl cs _ h
    exact ⟨.fn f r, by simp only [le]; exact ⟨trivial, h1⟩, h2⟩
  | .ref o off, c, h => by
    simp only [outK] at h
    cases hi : idxN m o with
    | none => rw [hi] at h; cases h
    | some i =>
      rw [hi] at h
      exact ⟨.ref i off, by simp only [le]; exact ⟨trivial, idxN_some hi⟩, h⟩
  | .sref o off n, c, h => by
    simp only [outK] at h
    cases hi : idxN m o with
    | none => rw [hi] at h; cases h
    | some i =>
      rw [hi] at h
      exact ⟨.sref i off n, by simp only [le]; exact ⟨trivial, trivial, idxN_some hi⟩, h⟩
  | .imm cs off, c, h => ⟨.imm cs off, by simp [le], h⟩
  | .own t e sz n f, c, h => by
    simp only [outK] at h
    cases hi : idxN tl t with
    | none =>
      rw [hi] at h
      exact ⟨.p (.sl sz n f), by simp only [le]; exact leD_refl _, h⟩
    | some i =>
      rw [hi] at h
      exact ⟨.own i e sz n f, by simp only [le]; exact ⟨by rw [List.getElem?_map, idxN_some hi]; rfl, trivial, leD_refl _⟩, h⟩
theorem outs_ok (m tl : List Nat) : ∀ (xs : List A) (c : List A → Rs), Sat P T cuts (outK.outs m tl xs c) → ∃ r, le.les m (tl.map some) xs r ∧ Sat P T cuts (c r)
  | [], c, h => ⟨[], by simp [le.les], h⟩
  | x :: xs, c, h => by
    simp only [outK.outs] at h
    obtain ⟨r, h1, h2⟩ := outK_ok m tl x _ h
    obtain ⟨rs, h3, h4⟩ := outs_ok m tl xs _ h2
    exact ⟨r :: rs, by simp only [le.les]; exact ⟨h1, h3⟩, h4⟩
end

theorem outObs_ok (m tl : List Nat) (objs : List Ob) : ∀ (l : List Nat) (c : List Ob → Rs), Sat P T cuts (outObs m tl objs l c) → ∃ r, r.length = l.length ∧ (∀ (i o : Nat) (x : Ob), l[i]? = some o → r[i]? = some x → leOb m (tl.map some) (obGet objs o) x) ∧ Sat P T cuts (c r)
  | [], c, h => ⟨[], rfl, fun i o x h => by simp at h, h⟩
  | o :: l, c, h => by
    simp only [outObs] at h
    have hob : ∃ y, leOb m (tl.map some) (obGet objs o) y ∧ Sat P T cuts (outObs m tl objs l (fun xs => c (y :: xs))) := by
      cases ho : obGet objs o with
      | dead => rw [ho] at h; exact ⟨.dead, by simp [leOb], h⟩
      | iter s p => rw [ho] at h; exact ⟨.iter s p, by simp [leOb], h⟩
      | cells cs =>
        rw [ho] at h
        simp only [outOb] at h
        obtain ⟨r, h1, h2⟩ := outs_ok m tl cs _ h
        exact ⟨.cells r, by simpa only [leOb] using h1, h2⟩
    obtain ⟨y, hy, h⟩ := hob
    obtain ⟨r, h1, h2, h3⟩ := outObs_ok m tl objs l _ h
    refine ⟨y :: r, by simp [h1], fun i o' x hi hx => ?_, h3⟩
    cases i with
    | zero =>
      simp only [List.getElem?_cons_zero, Option.some.injEq] at hi hx
      subst hi hx
      exact hy
    | succ i => exact h2 i o' x (by simpa using hi) (by simpa using hx)

theorem preB_ok : ∀ {n i : Nat} {m : List Nat}, preB n i m = true → ∀ j, j < n → m[j]? = some (i + j)
  | 0, i, m, h, j, hj => by omega
  | n + 1, i, [], h, j, hj => by simp [preB] at h
  | n + 1, i, x :: m, h, j, hj => by
    simp only [preB] at h
    cases hb : Nat.beq x i with
    | false => rw [hb] at h; cases h
    | true =>
      rw [hb] at h
      have := Nat.eq_of_beq_eq_true hb
      subst this
      cases j with
      | zero => simp
      | succ j =>
        rw [List.getElem?_cons_succ, preB_ok h j (by omega)]
        congr 1
        omega
theorem memN_no : ∀ {l : List Nat} {x : Nat}, memN l x = false → x ∉ l
  | [], x, h => by simp
  | y :: l, x, h => by
    simp only [memN] at h
    cases hb : Nat.beq y x with
    | true => rw [hb] at h; cases h
    | false =>
      rw [hb] at h
      intro hx
      rcases List.mem_cons.1 hx with hx | hx
      · subst hx
        rw [Nat.beq_refl] at hb
        cases hb
      · exact memN_no h hx
theorem nodB_ok : ∀ {l : List Nat}, nodB l = true → l.Nodup
  | [], h => List.nodup_nil
  | x :: l, h => by
    simp only [nodB] at h
    cases hb : memN l x with
    | true => rw [hb] at h; cases h
    | false =>
      rw [hb] at h
      exact List.nodup_cons.2 ⟨memN_no hb, nodB_ok h⟩
theorem ltB_ok {n : Nat} : ∀ {l : List Nat}, ltB n l = true → ∀ x ∈ l, x < n
  | y :: l, h, x, hx => by
    simp only [ltB] at h
    cases hb : Nat.blt y n with
    | false => rw [hb] at h; cases h
    | true =>
      rw [hb] at h
      rcases List.mem_cons.1 hx with hx | hx
      · subst hx
        simpa [Nat.blt_eq] using hb
      · exact ltB_ok h x hx
theorem getB_ok : ∀ {l : List Bool} {i : Nat}, getB l i = true → l[i]? = some true
  | [], i, h => by simp [getB] at h
  | x :: l, 0, h => by simpa [getB] using h
  | x :: l, i + 1, h => by simpa using getB_ok (l := l) (i := i) (by simpa [getB] using h)
theorem alB_ok {ts : List Bool} : ∀ {l : List Nat}, alB ts l = true → ∀ x ∈ l, ts[x]? = some true
  | y :: l, h, x, hx => by
    simp only [alB] at h
    cases hb : getB ts y with
    | false => rw [hb] at h; cases h
    | true =>
      rw [hb] at h
      rcases List.mem_cons.1 hx with hx | hx
      · subst hx
        exact getB_ok hb
      · exact alB_ok h x hx
theorem trues_eq : ∀ (l : List Nat), trues l = (l.map some).map fun _ => true
  | [] => rfl
  | x :: l => by simp [trues, trues_eq l]

theorem kfinM_ok {rs : List ResultVar} {m tl : List Nat} {Q : A → List Ob → List Bool → Prop} {e : Ex} {st : St} (h : Sat P T cuts (kfinM T rs m tl Q e st)) : Sat P T cuts (kfin T rs Q e st) := by
  have main : Sat P T cuts (match retA T st rs with
    | none => .fail
    | some x => match preB st.n0 0 m, nodB m, ltB (lenO st.objs) m, nodB tl, alB st.tags tl with
      | true, true, true, true, true => outK m tl x (fun r => outObs m tl st.objs m (fun obs' => .goal (Q r obs' (trues tl))))
      | _, _, _, _, _ => .fail) → ∃ m tl r obs' tags', Fin T rs Q st m tl r obs' tags' := by
    intro h
    cases hr : retA T st rs with
    | none => rw [hr] at h; cases h
    | some x =>
      rw [hr] at h
      simp only at h
      cases h1 : preB st.n0 0 m with
      | false => rw [h1] at h; cases h
      | true =>
        cases h2 : nodB m with
        | false => rw [h1, h2] at h; cases h
        | true =>
          cases h3 : ltB (lenO st.objs) m with
          | false => rw [h1, h2, h3] at h; cases h
          | true =>
            cases h4 : nodB tl with
            | false => rw [h1, h2, h3, h4] at h; cases h
            | true =>
              cases h5 : alB st.tags tl with
              | false => rw [h1, h2, h3, h4, h5] at h; cases h
              | true =>
                rw [h1, h2, h3, h4, h5] at h
                obtain ⟨r, k1, k2⟩ := outK_ok m tl x _ h
                obtain ⟨obs', k3, k4, k5⟩ := outObs_ok m tl st.objs m _ k2
                refine ⟨m, tl.map some, r, obs', trues tl, ⟨fun i hi => by have := preB_ok h1 i hi; rwa [Nat.zero_add] at this, ⟨x, hr, k1⟩, ⟨k3, k4, fun o ho => ?_, nodB_ok h2, fun t ht => ?_, trues_eq tl, fun i j t hi hj => ?_⟩, k5.goal_inv'⟩⟩
                · have := ltB_ok h3 o ho
                  rwa [lenO_eq] at this
                · obtain ⟨t', ht', e⟩ := List.mem_map.1 ht
                  cases e
                  exact alB_ok h5 t ht'
                · rw [List.getElem?_map] at hi hj
                  have e1 : tl[i]? = some t := by
                    cases hh : tl[i]? with
                    | none => rw [hh] at hi; cases hi
                    | some y => rw [hh] at hi; simpa using hi
                  have e2 : tl[j]? = some t := by
                    cases hh : tl[j]? with
                    | none => rw [hh] at hj; cases hj
                    | some y => rw [hh] at hj; simpa using hj
                  exact (List.getElem?_inj (List.getElem?_eq_some_iff.1 e1).1 (nodB_ok h4)).1 (e1.trans e2.symm)
  cases e with
  | exit id => cases h
  | normal => exact .goal (main h)
  | ret => exact .goal (main h)

/-- A function's contract by a run of its body. -/
theorem Spec.of_run (m tl : List Nat) (hM : P.follows .mixedOrders = true) (hT : TOk P T) {f : FuncId} {fn : Func} {body : Code} (hf : P.funcs[f]? = some fn) {n : Nat} (hn : fn.ntmps = n) {rs : Array ResultVar} (hrs : fn.results = rs) (hb : fn.body = some body) {args : List A} {obs : List Ob} {tags : List Bool} {Q : A → List Ob → List Bool → Prop} (hlen : Nat.ble args.length n = true)
    (h : Sat P T cuts (argK args 0 fun sl => natK (lenO obs) fun n0 => obsK obs fun obs => exec T cuts body (kfinM T rs.toList m tl Q) ⟨n, n0, sl, obs, tags⟩)) : Spec P f args obs tags Q := by
  subst hn
  subst hrs
  simp only [argK_eq, natK_eq, obsK_eq] at h
  exact Spec.of_awp hT hf rfl rfl hb hlen fun W0 g0 => awp_mono (fun e st s => kfinM_ok s) (exec_sound hM hT body _ _ h)

/-! ### steps of a walk, said shorter -/
mutual
theorem le_refl : ∀ (x : A), flatA x = true → le [] [] x x
  | .dead, h => by simp [le]
  | .p x, h => by simp only [le]; exact leD_refl x
  | .imm cs off, h => by simp [le]
  | .ref o off, h => by simp [flatA] at h
  | .sref o off n, h => by simp [flatA] at h
  | .own t e sz n f, h => by simp [flatA] at h
  | .agg cs, h => by
    simp only [flatA] at h
    simp only [le]
    exact les_refl cs h
  | .tup cs, h => by
    simp only [flatA] at h
    simp only [le]
    exact les_refl cs h
  | .fn f cs, h => by
    simp only [flatA] at h
    simp only [le]
    exact ⟨trivial, les_refl cs h⟩
theorem les_refl : ∀ (xs : List A), flatA.flats xs = true → le.les [] [] xs xs
  | [], h => by simp [le.les]
  | x :: xs, h => by
    simp only [flatA.flats] at h
    cases hx : flatA x with
    | false => rw [hx] at h; cases h
    | true =>
      rw [hx] at h
      simp only [le.les]
      exact ⟨le_refl x hx, les_refl xs h⟩
end

theorem LeHp.none {objs : List Ob} {tags : List Bool} : LeHp [] [] objs tags [] [] :=
  ⟨rfl, fun i o x h => by simp at h, fun o h => by simp at h, List.nodup_nil, fun t h => by simp at h, rfl, fun i j t h => by simp at h⟩

/-- A call of a function of values. -/
theorem Sat.pure {f : FuncId} {xs : List A} {st : St} {d : Option Nat} {k : St → Rs} (own : Own P f) {x : A} (hs : Spec P f xs [] [] (fun r o t => r = x ∧ o = [] ∧ t = [])) (hf : flatA.flats xs = true) (hx : flatA x = true) (next : Sat P T cuts (putK st d x k)) : Sat P T cuts (.call f xs st d k) := by
  refine .call own [] [] hs (les_refl xs hf) LeHp.none ?_
  rintro r ob tg ⟨rfl, rfl, rfl⟩
  rw [backK_eq]
  rw [putK_eq] at next
  simp only [backSt, bkObs, upd, die, tcat]
  rwa [bkA_flat _ _ _ hx]
theorem Sat.ppure {f : FuncId} {xs : List A} {k : A → Rs} (own : Own P f) {x : A} (hs : Spec P f xs [] [] (fun r o t => r = x ∧ o = [] ∧ t = [])) (hf : flatA.flats xs = true) (hx : flatA x = true) (next : Sat P T cuts (k x)) : Sat P T cuts (.pcall f xs k) :=
  .pcall own hs (les_refl xs hf) hx next
theorem Own.of {f : FuncId} {fn : Func} (h : P.funcs[f]? = some fn) (hb : fn.body.isNone = false) (hn : (fn.name == "runtime.NumGoroutine") = false) : Own P f := ⟨fn, h, hb, hn⟩

def obsLe (m : List Nat) (tl : List (Option Nat)) (objs : List Ob) : List Nat → List Ob → Prop
  | [], [] => True
  | o :: l, x :: xs => leOb m tl (obGet objs o) x ∧ obsLe m tl objs l xs
  | _, _ => False
theorem obsLe_ok {m : List Nat} {tl : List (Option Nat)} {objs : List Ob} : ∀ {l : List Nat} {xs : List Ob}, obsLe m tl objs l xs → xs.length = l.length ∧ ∀ (i o : Nat) (x : Ob), l[i]? = some o → xs[i]? = some x → leOb m tl (obGet objs o) x
  | [], [], h => ⟨rfl, fun i o x h => by simp at h⟩
  | [], _ :: _, h => h.elim
  | _ :: _, [], h => h.elim
  | o :: l, x :: xs, h => by
    obtain ⟨h1, h2⟩ := obsLe_ok h.2
    refine ⟨by simp [h1], fun i o' x' hi hx => ?_⟩
    cases i with
    | zero =>
      simp only [List.getElem?_cons_zero, Option.some.injEq] at hi hx
      subst hi hx
      exact h.1
    | succ i => exact h2 i o' x' (by simpa using hi) (by simpa using hx)
/-- A state told shorter: its objects m, its rows tl. -/
theorem Weak.go {st st' : St} (m tl : List Nat) (hn : st'.n = st.n) (hn0 : st'.n0 = st.n0) (h1 : preB st.n0 0 m = true) (h2 : nodB m = true) (h3 : ltB (lenO st.objs) m = true) (h4 : nodB tl = true) (h5 : alB st.tags tl = true) (h6 : st'.tags = trues tl)
    (hs : leSl m (tl.map some) st st'.slots) (ho : obsLe m (tl.map some) st.objs m st'.objs) : Weak st st' := by
  obtain ⟨k1, k2⟩ := obsLe_ok ho
  refine Weak.of m (tl.map some) hn hn0 (fun i hi => by have := preB_ok h1 i hi; rwa [Nat.zero_add] at this) hs ⟨k1, k2, fun o ho => by have := ltB_ok h3 o ho; rwa [lenO_eq] at this, nodB_ok h2, fun t ht => ?_, by rw [h6, trues_eq], fun i j t hi hj => ?_⟩
  · obtain ⟨t', ht', e⟩ := List.mem_map.1 ht
    cases e
    exact alB_ok h5 t ht'
  · rw [List.getElem?_map] at hi hj
    have e1 : tl[i]? = some t := by
      cases hh : tl[i]? with
      | none => rw [hh] at hi; cases hi
      | some y => rw [hh] at hi; simpa using hi
    have e2 : tl[j]? = some t := by
      cases hh : tl[j]? with
      | none => rw [hh] at hj; cases hj
      | some y => rw [hh] at hj; simpa using hj
    exact (List.getElem?_inj (List.getElem?_eq_some_iff.1 e1).1 (nodB_ok h4)).1 (e1.trans e2.symm)
end
end Go.Proofs.YtijakklhklcjhaaA
