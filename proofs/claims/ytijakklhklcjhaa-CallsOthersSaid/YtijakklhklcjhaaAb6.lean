/- What is reckoned is what the machine does: operation by operation (first part: values). -/
import Derived.Test.YtijakklhklcjhaaAb5
namespace Go.Proofs.YtijakklhklcjhaaA
open Go Go.RowKit
set_option linter.unusedVariables false
set_option linter.unusedSimpArgs false

theorem tinfo_parts {P : Program} {t : Nat} {i : TI} (h : tinfo P t = some i) : ∃ d inf z, P.underlying t = some d ∧ P.info? t = some inf ∧ inf.zero = some z ∧ i = ⟨dsOf d, inf.size, inf.bytes, z.cells.toList⟩ := by
  unfold tinfo at h
  cases hd : P.underlying t with
  | none => simp [hd] at h
  | some d =>
    cases hi : P.info? t with
    | none => simp [hd, hi] at h
    | some inf =>
      simp only [hd, hi] at h
      cases hb : badEq P t d with
      | true => simp [hb] at h
      | false =>
        simp only [hb] at h
        cases hz : inf.zero with
        | none => simp [hz] at h
        | some z =>
          simp [hz] at h
          exact ⟨d, inf, z, rfl, rfl, hz, h.symm⟩

theorem tinfo_eq {P : Program} {t : Nat} {i : TI} (h : tinfo P t = some i) {d : TypeDesc} (hd : P.underlying t = some d) (hr : d.isRow = true) : P.stoodInHeld t = false ∧ P.eqGuardType P.depth t = false := by
  unfold tinfo at h
  rw [hd] at h
  cases hi : P.info? t with
  | none => simp [hi] at h
  | some inf =>
    simp only [hi] at h
    cases hb : badEq P t d with
    | true => simp [hb] at h
    | false => simpa [badEq, hr] using hb

theorem dsOf_int {d : TypeDesc} {k : IntKind} (h : dsOf d = .int k) : d = .int k := by cases d <;> simp_all [dsOf]
theorem dsOf_bool {d : TypeDesc} (h : dsOf d = .bool) : d = .bool := by cases d <;> simp_all [dsOf]
theorem dsOf_str {d : TypeDesc} (h : dsOf d = .str) : d = .string := by cases d <;> simp_all [dsOf]
theorem dsOf_slice {d : TypeDesc} {e : Nat} (h : dsOf d = .slice e) : d = .slice e := by cases d <;> simp_all [dsOf]
theorem dsOf_arr {d : TypeDesc} {n e : Nat} (h : dsOf d = .arr n e) : d = .array n e := by cases d <;> simp_all [dsOf]
theorem dsOf_ptr {d : TypeDesc} {e : Nat} (h : dsOf d = .ptr e) : d = .pointer e := by cases d <;> simp_all [dsOf]
theorem dsOf_strct {d : TypeDesc} {fs : List (Nat × Nat × Bool)} (h : dsOf d = .strct fs) : ∃ ff, d = .struct ff ∧ fs = ff.toList.map fun f => (f.offset, f.type, f.name == "_") := by
  cases d <;> simp_all [dsOf]

theorem tds_some {P : Program} {T : TT} (hT : TOk P T) {t : Nat} {ds : Ds} (h : tds T t = some ds) : ∃ d inf, P.underlying t = some d ∧ P.info? t = some inf ∧ dsOf d = ds := by
  unfold tds at h
  cases hg : tget T t with
  | none => simp [hg] at h
  | some i =>
    obtain ⟨d, inf, z, h1, h2, h3, rfl⟩ := tinfo_parts (hT t i hg)
    simp [hg] at h
    exact ⟨d, inf, h1, h2, h⟩

theorem AVals_vA {g : Gh} {w : World} : ∀ (us : List Value), AVals g w (us.map vA) us
  | [] => by simp [AVals]
  | u :: us => by
    simp only [List.map_cons, AVals, vA]
    exact ⟨u, us, rfl, by simp [AVal, DVal], AVals_vA us⟩

theorem cA_ok {g : Gh} {w : World} (v : Value) : AVal g w (cA v) v := by
  cases v <;> simp only [cA, vA, AVal, DVal]
  exact ⟨_, rfl, AVals_vA _⟩

theorem opnd_ok {W0 : World} {g0 g : Gh} {st : St} {a : Act} {w : World} (h : Rel W0 g0 g st a w) (x : Operand) : AVal g w (opnd st x) (a.eval x) := by
  cases x with
  | tmp t =>
    simp only [opnd, Act.eval]
    cases ht : a.tmps[t]? with
    | none =>
      have hn : ¬ t < st.n := by
        intro hl
        rw [← h.size] at hl
        rw [Array.getElem?_eq_none_iff] at ht
        exact absurd hl (Nat.not_lt.2 ht)
      have : st.get t = .dead := by
        simp only [St.get]
        cases hb : Nat.blt t st.n with
        | false => rfl
        | true => exact absurd (by simpa [Nat.blt_eq] using hb) hn
      rw [this]
      simp [AVal]
    | some u =>
      have := h.slot t u ht
      simpa [Array.getD_eq_getD_getElem?, ht] using this
  | const v => exact cA_ok v
  | global b => simp only [opnd, vA, Act.eval, AVal, DVal]
  | func f =>
    simp only [opnd, Act.eval, AVal]
    exact ⟨#[], rfl, by simp [AVals]⟩

theorem opnds_ok {W0 : World} {g0 g : Gh} {st : St} {a : Act} {w : World} (h : Rel W0 g0 g st a w) : ∀ (xs : List Operand), AVals g w (opnds st xs) (xs.map a.eval)
  | [] => by simp [opnds, AVals]
  | x :: xs => by
    simp only [opnds, List.map_cons, AVals]
    exact ⟨_, _, rfl, opnd_ok h x, opnds_ok h xs⟩

/-- What the machine does fits what is reckoned. -/
def EfOk (P : Program) (g : Gh) (st : St) (a : Act) (w : World) (o : Oper) : Ef → Prop
  | .no => True
  | .val x => ∃ v, (execOp a.eval o).run P w = .ok (.value v) w ∧ AVal g w x v
  | .valn c x => c → ∃ v, (execOp a.eval o).run P w = .ok (.value v) w ∧ AVal g w x v
  | .splt b x y => ∃ v, (execOp a.eval o).run P w = .ok (.value v) w ∧ (b = true → AVal g w x v) ∧ (b = false → AVal g w y v)
  | .new cs => ∃ us T, (execOp a.eval o).run P w = .ok (.value (.pointer (some ⟨w.heap.size, 0, none⟩))) (w.alloc (.cells us T)) ∧ AVals g w cs us.toList ∧ allOne us.toList
  | .set i cs => ∃ b us T w', g.blks[i]? = some b ∧ (obGet st.objs i).live = true ∧ (execOp a.eval o).run P w = .ok .skip w' ∧ w'.heap[b]? = some (.cells us T (0, 0)) ∧ AVals g w cs us.toList ∧ allOne us.toList ∧
      w'.os = w.os ∧ w'.tape = w.tape ∧ w'.output = w.output ∧ w'.heap.size = w.heap.size ∧ ∀ k, k ≠ b → w'.heap[k]? = w.heap[k]?
  | .row c kill e sz n f => c → ∃ v w' us, (execOp a.eval o).run P w = .ok (.value v) w' ∧ w'.ownsRow 0 e sz v n us ∧ (∀ i, i < n → (f i).length = sz ∧ DCells g.ext w (f i) ((us.drop (i * sz)).take sz)) ∧
      (∀ b, v.ownBlock = some b → b < w.heap.size → ∃ t n0, kill = some t ∧ g.tbl[t]? = some (some b) ∧ g.ext b = n0 * sz ∧ n0 ≤ n ∧ ∀ i, i < n0 * sz → w'.cell? ⟨b, i, none⟩ = w.cell? ⟨b, i, none⟩) ∧
      (∀ t, kill = some t → g.alive[t]? = some true) ∧
      w'.os = w.os ∧ w'.tape = w.tape ∧ w'.output = w.output ∧ w.heap.size ≤ w'.heap.size ∧ ∀ k, k < w.heap.size → some k ≠ v.ownBlock → w'.heap[k]? = w.heap[k]?
  | .bld sz n f => ∃ us U, (execOp a.eval o).run P w = .ok (.value (.slice (some ⟨w.heap.size, 0, none⟩) n n)) (w.alloc (.cells us U)) ∧ us.size = n * sz ∧ ∀ i, i < n → (f i).length = sz ∧ DCells g.ext w (f i) ((us.toList.drop (i * sz)).take sz)
  | .call f xs => ∃ vs, (execOp a.eval o).run P w = (callFunc f vs).run P w ∧ AVals g w xs vs.toList

theorem EfOk.of_br {P : Program} {g : Gh} {st : St} {a : Act} {w : World} {o : Oper} {r : BR} (h : match r with
    | .no => True
    | .val v => (execOp a.eval o).run P w = .ok (.value v) w
    | .nd c v => c → (execOp a.eval o).run P w = .ok (.value v) w) : EfOk P g st a w o r.ef := by
  cases r with
  | no => trivial
  | val v => exact ⟨v, h, by simp [vA, AVal, DVal]⟩
  | nd c v => exact fun hc => ⟨v, h hc, by simp [vA, AVal, DVal]⟩

theorem kEq_eq {k k' : IntKind} (h : kEq k k' = true) : k = k' := by cases k <;> cases k' <;> simp_all [kEq]

section
variable {P : Program} {T : TT} {W0 : World} {g0 g : Gh} {st : St} {a : Act} {w : World} {o : Oper}

theorem AVal_vA {v u : Value} : AVal g w (vA v) u ↔ u = v := by simp [vA, AVal, DVal]
theorem AVal_pv {v u : Value} : AVal g w (.p (.v v)) u ↔ u = v := by simp [AVal, DVal]

theorem binI_ok (op : BinOp) (k : IntKind) (x y : Int) (t : Nat) : match binI op k x y with
    | .no => True
    | .val v => (binOp op t (.int k x) (.int k y)).run P w = .ok v w
    | .nd c v => c → (binOp op t (.int k x) (.int k y)).run P w = .ok v w := by
  cases op <;> simp [binI, binOp, Op.intArith, Op.intDiv, Op.intBits, Op.intCmp, bitsI, Sem.run, go_sem] <;> intro h <;> simp [h]

theorem binS_ok (op : BinOp) (x y : ByteArray) (t : Nat) : match binS op x y with
    | .no => True
    | .val v => (binOp op t (.string x) (.string y)).run P w = .ok v w
    | .nd c v => c → (binOp op t (.string x) (.string y)).run P w = .ok v w := by
  cases op <;> simp [binS, binOp, Op.stringOp, Sem.run, go_sem]

theorem equalIn_bool (d : Nat) (t : TypeId) (x y : Bool) (h : P.underlying t = some .bool) : (Op.equalIn (d + 1) t (.bool x) (.bool y)).run P w = .ok (x == y) w := by
  simp [Op.equalIn, run_underlying h]
theorem equal_bool (t : TypeId) (x y : Bool) (h : P.underlying t = some .bool) : (Op.equal t (.bool x) (.bool y)).run P w = .ok (x == y) w := equalIn_bool 9999 t x y h
theorem equalIn_nils (d : Nat) (t e : TypeId) (h : P.underlying t = some (.pointer e)) : (Op.equalIn (d + 1) t (.pointer none) (.pointer none)).run P w = .ok true w := by
  simp [Op.equalIn, run_underlying h]
theorem equal_nils (t e : TypeId) (h : P.underlying t = some (.pointer e)) : (Op.equal t (.pointer none) (.pointer none)).run P w = .ok true w := equalIn_nils 9999 t e h
theorem equalIn_ptr_nil (d : Nat) (t e : TypeId) (q : Addr) (h : P.underlying t = some (.pointer e)) : (Op.equalIn (d + 1) t (.pointer (some q)) (.pointer none)).run P w = .ok false w ∧ (Op.equalIn (d + 1) t (.pointer none) (.pointer (some q))).run P w = .ok false w := by
  constructor <;> simp [Op.equalIn, run_underlying h]
theorem equal_ptr_nil (t e : TypeId) (q : Addr) (h : P.underlying t = some (.pointer e)) : (Op.equal t (.pointer (some q)) (.pointer none)).run P w = .ok false w ∧ (Op.equal t (.pointer none) (.pointer (some q))).run P w = .ok false w := equalIn_ptr_nil 9999 t e q h

theorem binV_ok (hT : TOk P T) (op : BinOp) (t : Nat) (x y : Value) : match binV (tds T t) op x y with
    | .no => True
    | .val v => (binOp op t x y).run P w = .ok v w
    | .nd c v => c → (binOp op t x y).run P w = .ok v w := by
  cases x with
  | int k a =>
    cases y with
    | int k' b =>
      simp only [binV]
      cases op with
      | shl =>
        intro h
        simp only [binOp, Op.shift]
        rw [if_neg (by omega)]
        rfl
      | shr =>
        intro h
        simp only [binOp, Op.shift]
        rw [if_neg (by omega)]
        rfl
      | _ =>
        cases hk : kEq k k' with
        | false => trivial
        | true =>
          have := kEq_eq hk
          subst this
          first | exact binI_ok .add k a b t | exact binI_ok .sub k a b t | exact binI_ok .mul k a b t | exact binI_ok .quo k a b t | exact binI_ok .rem k a b t | exact binI_ok .and k a b t | exact binI_ok .or k a b t | exact binI_ok .xor k a b t | exact binI_ok .andNot k a b t | exact binI_ok .eql k a b t | exact binI_ok .neq k a b t | exact binI_ok .lss k a b t | exact binI_ok .leq k a b t | exact binI_ok .gtr k a b t | exact binI_ok .geq k a b t
    | _ => simp only [binV]
  | string a =>
    cases y with
    | string b =>
      simp only [binV]
      exact binS_ok op a b t
    | _ => simp only [binV]
  | bool a =>
    cases y with
    | bool b =>
      simp only [binV]
      cases hd : tds T t with
      | none => simp
      | some ds =>
        cases ds with
        | bool =>
          obtain ⟨d, inf, h1, h2, h3⟩ := tds_some hT hd
          have := dsOf_bool h3
          subst this
          cases op <;> first | trivial | simp [binOp, equal_bool t a b h1]
        | _ => simp
    | _ => simp only [binV]
  | pointer p =>
    cases p with
    | some q => cases y <;> simp only [binV]
    | none =>
      cases y with
      | pointer q =>
        cases q with
        | some q => simp only [binV]
        | none =>
          simp only [binV]
          cases hd : tds T t with
          | none => simp
          | some ds =>
            cases ds with
            | ptr e =>
              obtain ⟨d, inf, h1, h2, h3⟩ := tds_some hT hd
              have := dsOf_ptr h3
              subst this
              cases op <;> first | trivial | simp [binOp, equal_nils t e h1]
            | _ => simp
      | _ => simp only [binV]
  | _ => cases y <;> simp only [binV]
end
end Go.Proofs.YtijakklhklcjhaaA
