/- What is reckoned is what the machine does: are two values the same; a row's element at a place that is reckoned. -/
import Derived.Test.YtijakklhklcjhaaAb7
import Derived.Laws.StructEq
import Derived.ChangeKeysEq
namespace Go.Proofs.YtijakklhklcjhaaA
open Go Go.RowKit
set_option linter.unusedVariables false
set_option linter.unusedSimpArgs false

section
variable {P : Program} {T : TT} {g : Gh} {w : World}

theorem eqFs_ok (hT : TOk P T) {D : Nat} {q : Nat → A → A → Option Bool} (hq : ∀ t x y r u v, q t x y = some r → AVal g w x u → AVal g w y v → (Op.equalIn D t u v).run P w = .ok r w) {cs ds : List A} {us vs : Array Value} (hc : AVals g w cs us.toList) (hd : AVals g w ds vs.toList) :
    ∀ {ff : List Field} {b : Bool}, eqTA.eqFs T q (ff.map fun f => (f.offset, f.type, f.name == "_")) cs ds = some b → (Op.eqFields D us vs ff).run P w = .ok b w
  | [], b, h => by
    simp only [List.map_nil, eqTA.eqFs, Option.some.injEq] at h
    subst h
    simp [Op.eqFields]
  | f :: ff, b, h => by
    simp only [List.map_cons, eqTA.eqFs] at h
    cases hb : (f.name == "_") with
    | true =>
      rw [hb] at h
      have hn : ¬ (f.name ≠ "_") := by simpa using hb
      rw [Op.eqFields, if_neg hn]
      exact eqFs_ok hT hq hc hd h
    | false =>
      rw [hb] at h
      have hn : f.name ≠ "_" := by simpa using hb
      simp only at h
      cases h1 : rdA T f.type cs f.offset with
      | none => simp [h1] at h
      | some x =>
        cases h2 : rdA T f.type ds f.offset with
        | none => simp [h1, h2] at h
        | some y =>
          simp only [h1, h2] at h
          cases h3 : q f.type x y with
          | none => simp [h3] at h
          | some r =>
            cases h4 : eqTA.eqFs T q (ff.map fun f => (f.offset, f.type, f.name == "_")) cs ds with
            | none => simp [h3, h4] at h
            | some s =>
              simp only [h3, h4, Option.some.injEq] at h
              subst h
              obtain ⟨u, p1, p2⟩ := part_ok hT hc h1
              obtain ⟨v, q1, q2⟩ := part_ok hT hd h2
              have k := hq _ _ _ _ u v h3 p2 q2
              have k2 := eqFs_ok hT hq hc hd h4
              rw [Op.eqFields]
              simp only [if_pos hn, Sem.run_bind, p1, q1, k, Result.andThen_ok]
              cases r
              · simp
              · simpa using k2

theorem eqIs_ok (hT : TOk P T) {D e c : Nat} {q : Nat → A → A → Option Bool} (hq : ∀ t x y r u v, q t x y = some r → AVal g w x u → AVal g w y v → (Op.equalIn D t u v).run P w = .ok r w) {cs ds : List A} {us vs : Array Value} (hc : AVals g w cs us.toList) (hd : AVals g w ds vs.toList) :
    ∀ {n i : Nat} {b : Bool}, eqTA.eqIs T q e c cs ds n i = some b → (Op.eqItems D e c us vs (List.range' i n)).run P w = .ok b w
  | 0, i, b, h => by
    simp only [eqTA.eqIs, Option.some.injEq] at h
    subst h
    simp [Op.eqItems]
  | n + 1, i, b, h => by
    simp only [eqTA.eqIs] at h
    cases h1 : rdA T e cs (i * c) with
    | none => simp [h1] at h
    | some x =>
      cases h2 : rdA T e ds (i * c) with
      | none => simp [h1, h2] at h
      | some y =>
        simp only [h1, h2] at h
        cases h3 : q e x y with
        | none => simp [h3] at h
        | some r =>
          cases h4 : eqTA.eqIs T q e c cs ds n (i + 1) with
          | none => simp [h3, h4] at h
          | some s =>
            simp only [h3, h4, Option.some.injEq] at h
            subst h
            obtain ⟨u, p1, p2⟩ := part_ok hT hc h1
            obtain ⟨v, q1, q2⟩ := part_ok hT hd h2
            have k := hq _ _ _ _ u v h3 p2 q2
            have k2 := eqIs_ok hT hq hc hd h4
            rw [List.range'_succ, Op.eqItems]
            simp only [Sem.run_bind, p1, q1, k, Result.andThen_ok]
            cases r
            · simp
            · simpa using k2

theorem eqTA_ok (hT : TOk P T) : ∀ (d t : Nat) (x y : A) (b : Bool), eqTA T d t x y = some b → ∀ (D : Nat) (u v : Value), d ≤ D → AVal g w x u → AVal g w y v → (Op.equalIn D t u v).run P w = .ok b w
  | 0, t, x, y, b, h => by simp [eqTA] at h
  | d + 1, t, x, y, b, h => by
    intro D u v hD hx hy
    obtain ⟨D, rfl⟩ : ∃ D', D = D' + 1 := ⟨D - 1, by omega⟩
    have hq : ∀ t x y r u v, eqTA T d t x y = some r → AVal g w x u → AVal g w y v → (Op.equalIn D t u v).run P w = .ok r w := fun t x y r u v h h1 h2 => eqTA_ok hT d t x y r h D u v (by omega) h1 h2
    simp only [eqTA] at h
    cases hd : tds T t with
    | none => simp [hd] at h
    | some ds0 =>
      obtain ⟨td, inf, k1, k2, k3⟩ := tds_some hT hd
      simp only [hd] at h
      cases ds0 with
      | bool =>
        have := dsOf_bool k3
        subst this
        simp only at h
        split at h
        · simp only [Option.some.injEq] at h
          subst h
          have e1 := AVal_pv.1 hx
          have e2 := AVal_pv.1 hy
          subst e1 e2
          exact run_equalIn_bool' w D t _ _ k1
        · cases h
      | int k =>
        have := dsOf_int k3
        subst this
        simp only at h
        split at h
        · rename_i ka a1 kb b1
          cases hk : kEq ka kb with
          | false => simp [hk] at h
          | true =>
            simp only [hk, Option.some.injEq] at h
            subst h
            have := kEq_eq hk
            subst this
            have e1 := AVal_pv.1 hx
            have e2 := AVal_pv.1 hy
            subst e1 e2
            exact run_equalIn_int w D t _ _ _ _ k1
        · cases h
      | str =>
        have := dsOf_str k3
        subst this
        simp only at h
        split at h
        · simp only [Option.some.injEq] at h
          subst h
          have e1 := AVal_pv.1 hx
          have e2 := AVal_pv.1 hy
          subst e1 e2
          exact run_equalIn_string w D t _ _ k1
        · cases h
      | strct fs =>
        obtain ⟨ff, rfl, rfl⟩ := dsOf_strct k3
        simp only at h
        split at h
        · rename_i cs ds'
          simp only [AVal] at hx hy
          obtain ⟨us, rfl, hx⟩ := hx
          obtain ⟨vs, rfl, hy⟩ := hy
          have hf : P.fieldsOf t = ff := by simp [Program.fieldsOf, k1]
          obtain ⟨i0, hi0, _⟩ : ∃ i, tinfo P t = some i ∧ True := by
            unfold tds at hd
            cases hg : tget T t with
            | none => simp [hg] at hd
            | some i => exact ⟨i, hT _ _ hg, trivial⟩
          have hp := (tinfo_eq hi0 k1 rfl).1
          rw [run_equalIn_struct w D t us vs (by rw [hf]; exact k1) hp, hf]
          exact eqFs_ok hT hq hx hy h
        · cases h
      | arr n e =>
        have := dsOf_arr k3
        subst this
        simp only at h
        cases hte : tget T e with
        | none => simp [hte] at h
        | some te =>
          obtain ⟨de, infe, ze, q1, q2, q3, rfl⟩ := tinfo_parts (hT e te hte)
          simp only [hte] at h
          split at h
          · rename_i cs ds'
            simp only [AVal] at hx hy
            obtain ⟨us, rfl, hx⟩ := hx
            obtain ⟨vs, rfl, hy⟩ := hy
            rw [run_equalIn_array w D us vs k1 q2]
            have hc : P.cellsOf e = infe.size := by simp [Program.cellsOf, q2]
            rw [hc, List.range_eq_range']
            exact eqIs_ok hT hq hx hy h
          · cases h
      | _ => simp at h

theorem intsOf_get {k : IntKind} : ∀ {cs : List A} {ns : List Int}, intsOf k cs = some ns → ns.length = cs.length ∧ ∀ (i : Nat) (x : A), cs[i]? = some x → x = vA (.int k (ns.getD i 0))
  | [], ns, h => by
    simp only [intsOf, Option.some.injEq] at h
    subst h
    exact ⟨rfl, fun i x hx => by simp at hx⟩
  | c :: cs, ns, h => by
    cases c with
    | p d =>
      cases d with
      | v vv =>
        cases vv with
        | int k' n =>
          simp only [intsOf] at h
          cases hk : kEq k k' with
          | false => simp [hk] at h
          | true =>
            have := kEq_eq hk
            subst this
            cases hr : intsOf k cs with
            | none => simp [hk, hr] at h
            | some ms =>
              simp only [hk, hr, Option.some.injEq] at h
              subst h
              obtain ⟨h1, h2⟩ := intsOf_get hr
              refine ⟨by simp [h1], fun i x hx => ?_⟩
              cases i with
              | zero =>
                simp only [List.getElem?_cons_zero, Option.some.injEq] at hx
                subst hx
                rfl
              | succ i =>
                simp only [List.getElem?_cons_succ] at hx
                simpa using h2 i x hx
        | _ => simp [intsOf] at h
      | sl _ _ _ => simp [intsOf] at h
    | _ => simp [intsOf] at h
theorem strsOf_get : ∀ {cs : List A} {ns : List ByteArray}, strsOf cs = some ns → ∀ (i : Nat) (x : A), cs[i]? = some x → x = vA (.string (ns.getD i ByteArray.empty))
  | [], ns, h => by
    intro i x hx
    simp at hx
  | c :: cs, ns, h => by
    cases c with
    | p d =>
      cases d with
      | v vv =>
        cases vv with
        | string n =>
          simp only [strsOf] at h
          cases hr : strsOf cs with
          | none => simp [hr] at h
          | some ms =>
            simp only [hr, Option.some.injEq] at h
            subst h
            have h2 := strsOf_get hr
            intro i x hx
            cases i with
            | zero =>
              simp only [List.getElem?_cons_zero, Option.some.injEq] at hx
              subst hx
              rfl
            | succ i =>
              simp only [List.getElem?_cons_succ] at hx
              simpa using h2 i x hx
        | _ => simp [strsOf] at h
      | sl _ _ _ => simp [strsOf] at h
    | _ => simp [strsOf] at h
theorem boolsOf_get : ∀ {cs : List A} {ns : List Bool}, boolsOf cs = some ns → ∀ (i : Nat) (x : A), cs[i]? = some x → x = vA (.bool (ns.getD i false))
  | [], ns, h => by
    intro i x hx
    simp at hx
  | c :: cs, ns, h => by
    cases c with
    | p d =>
      cases d with
      | v vv =>
        cases vv with
        | bool n =>
          simp only [boolsOf] at h
          cases hr : boolsOf cs with
          | none => simp [hr] at h
          | some ms =>
            simp only [hr, Option.some.injEq] at h
            subst h
            have h2 := boolsOf_get hr
            intro i x hx
            cases i with
            | zero =>
              simp only [List.getElem?_cons_zero, Option.some.injEq] at hx
              subst hx
              rfl
            | succ i =>
              simp only [List.getElem?_cons_succ] at hx
              simpa using h2 i x hx
        | _ => simp [boolsOf] at h
      | sl _ _ _ => simp [boolsOf] at h
    | _ => simp [boolsOf] at h

theorem colA_get {cs : List A} {i : Nat} {y : A} (h : colA cs i = some y) {x : A} (hx : cs[i]? = some x) : x = y := by
  unfold colA at h
  split at h
  · split at h
    · rename_i ns hr
      cases h
      exact (intsOf_get hr).2 i x hx
    · cases h
  · split at h
    · rename_i ns hr
      cases h
      exact strsOf_get hr i x hx
    · cases h
  · split at h
    · rename_i ns hr
      cases h
      exact boolsOf_get hr i x hx
    · cases h
  · cases h

theorem colL_get (cs : List A) (sz c : Nat) : ∀ (n r i : Nat), i < n → (colL cs sz c n r)[i]? = some (getA cs ((r + i) * sz + c))
  | 0, r, i, h => by omega
  | n + 1, r, 0, h => by simp [colL]
  | n + 1, r, i + 1, h => by
    simp only [colL, List.getElem?_cons_succ]
    rw [colL_get cs sz c n (r + 1) i (by omega)]
    rw [show r + 1 + i = r + (i + 1) by omega]

theorem elemA_get {cs : List A} {sz n i : Nat} (hi : i < n) : ∀ {m c : Nat} {l : List A}, elemA cs sz n i m c = some l → l.length = m ∧ ∀ j, j < m → l[j]? = some (getA cs (i * sz + (c + j)))
  | 0, c, l, h => by
    simp only [elemA, Option.some.injEq] at h
    subst h
    exact ⟨rfl, fun j hj => by omega⟩
  | m + 1, c, l, h => by
    simp only [elemA] at h
    cases h1 : colA (colL cs sz c n 0) i with
    | none => simp [h1] at h
    | some x =>
      cases h2 : elemA cs sz n i m (c + 1) with
      | none => simp [h1, h2] at h
      | some l' =>
        simp only [h1, h2, Option.some.injEq] at h
        subst h
        obtain ⟨k1, k2⟩ := elemA_get hi h2
        refine ⟨by simp [k1], fun j hj => ?_⟩
        cases j with
        | zero =>
          have := colA_get h1 (colL_get cs sz c n 0 i hi)
          rw [List.getElem?_cons_zero, ← this, Nat.zero_add, Nat.add_zero]
        | succ j =>
          rw [List.getElem?_cons_succ, k2 j (by omega)]
          rw [show c + 1 + j = c + (j + 1) by omega]
end
end Go.Proofs.YtijakklhklcjhaaA
