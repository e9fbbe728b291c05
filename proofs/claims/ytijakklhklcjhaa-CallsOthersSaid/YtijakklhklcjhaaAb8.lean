/- What is reckoned is what the machine does: operation by operation (third part: numbers, places, calls). -/
import Derived.Test.YtijakklhklcjhaaAb20
namespace Go.Proofs.YtijakklhklcjhaaA
open Go Go.RowKit
set_option linter.unusedVariables false
set_option linter.unusedSimpArgs false

section
variable {P : Program} {T : TT} {W0 : World} {g0 g : Gh} {st : St} {a : Act} {w : World} {o : Oper}

theorem alloc_ok (hT : TOk P T) (h : Rel W0 g0 g st a w) {t : Nat} (ho : o.op = .alloc t) : EfOk P g st a w o (ev T st (.alloc t)) := by
  have he : execOp a.eval o = (do pure (.value (← Instr.alloc t true (.tuple #[])))) := by unfold execOp; rw [ho]
  simp only [ev]
  cases ht : tget T t with
  | none => trivial
  | some ti =>
    obtain ⟨d, inf, z, h1, h2, h3, rfl⟩ := tinfo_parts (hT t ti ht)
    simp only
    cases hz : allOneB z.cells.toList with
    | false => trivial
    | true =>
      refine ⟨z.cells, t, exec_v he ?_, ?_, allOneB_ok hz⟩
      · simp [Instr.alloc, zeroValue, typeInfo, h2, h3, newVar, newRow, newObj, Sem.run]
      · exact AVals_vA _

theorem box_ok (h : Rel W0 g0 g st a w) {t : Nat} {x : Operand} (ho : o.op = .box t x) : EfOk P g st a w o (ev T st (.box t x)) := by
  have he : execOp a.eval o = (do pure (.value (← Instr.box t (a.eval x)))) := by unfold execOp; rw [ho]
  have hx := opnd_ok h x
  simp only [ev]
  cases hz : onesA (cellsA (opnd st x)) with
  | false => trivial
  | true =>
    have c1 := cellsA_ok hx hz
    refine ⟨(a.eval x).cells, t, exec_v he ?_, c1, onesA_ok hz c1⟩
    simp [Instr.box, newVar, newRow, newObj, Sem.run]

theorem eqGuard_plain (op : BinOp) (t : TypeId) (X Y : Operand) (x y : Value) (hx : match x with | .nilIface => False | .agg _ => False | _ => True) : (eqGuard op t X Y x y).run P w = .ok () w := by
  cases x <;> first | exact hx.elim | (cases op <;> simp [eqGuard, Sem.run])

theorem bin_ok (hT : TOk P T) (h : Rel W0 g0 g st a w) {op : BinOp} {t t' : Nat} {x y : Operand} (ho : o.op = .binOp op t x y t') : EfOk P g st a w o (ev T st (.binOp op t x y t')) := by
  have he : execOp a.eval o = (do pure (.value (← (do eqGuard op t x y (a.eval x) (a.eval y); binOp op t (a.eval x) (a.eval y))))) := by unfold execOp; rw [ho]
  have hx := opnd_ok h x
  have hy := opnd_ok h y
  simp only [ev]
  apply EfOk.of_br
  have nilCase : ∀ (q : Addr) (e : Nat) (d : TypeDesc), P.underlying t = some d → d = .pointer e → ∀ b1 b2, (b1 = .pointer (some q) ∧ b2 = .pointer none ∨ b1 = .pointer none ∧ b2 = .pointer (some q)) → a.eval x = b1 → a.eval y = b2 → match ptrNil (some (.ptr e)) op with
      | .no => True
      | .val v => (execOp a.eval o).run P w = .ok (.value v) w
      | .nd c v => c → (execOp a.eval o).run P w = .ok (.value v) w := by
    intro q e d hd hde b1 b2 hb e1 e2
    subst hde
    have k := equal_ptr_nil (w := w) t e q hd
    cases op <;> first | trivial | (refine exec_v he ?_; rw [e1, e2]; rcases hb with ⟨rfl, rfl⟩ | ⟨rfl, rfl⟩ <;> simp [eqGuard_plain, binOp, k])
  cases hqx : opnd st x with
  | agg cs =>
    rw [hqx] at hx
    cases hqy : opnd st y with
    | agg ds =>
      rw [hqy] at hy
      simp only [binA]
      cases hq : eqTA T 9 t (.agg cs) (.agg ds) with
      | none => trivial
      | some b =>
        have k := eqTA_ok hT 9 t _ _ b hq 10000 (a.eval x) (a.eval y) (by omega) hx hy
        have hg : P.eqGuardType P.depth t = false := by
          simp only [eqTA] at hq
          cases hd : tget T t with
          | none => simp [tds, hd] at hq
          | some ti =>
            obtain ⟨d, inf, z, k1, k2, k3, rfl⟩ := tinfo_parts (hT t ti hd)
            refine (tinfo_eq (hT t _ hd) k1 ?_).2
            simp only [tds, hd] at hq
            cases d <;> simp [dsOf] at hq <;> rfl
        simp only [AVal] at hx hy
        obtain ⟨us, hu, _⟩ := hx
        obtain ⟨vs, hv, _⟩ := hy
        rw [hu, hv] at k
        rw [hu, hv] at he
        cases op <;> first
          | trivial
          | (refine exec_v he ?_; rw [Sem.run_bind, run_eqGuard_agg w _ t x y us vs hg, Result.andThen_ok, run_eql_struct, k]; rfl)
          | (refine exec_v he ?_; rw [Sem.run_bind, run_eqGuard_agg w _ t x y us vs hg, Result.andThen_ok, run_neq_struct, k]; rfl)
    | _ => simp only [binA]
  | p dx =>
    rw [hqx] at hx
    cases dx with
    | v vx =>
      have ex : a.eval x = vx := AVal_pv.1 hx
      cases hqy : opnd st y with
      | p dy =>
        rw [hqy] at hy
        cases dy with
        | v vy =>
          have ey : a.eval y = vy := AVal_pv.1 hy
          have hplain : binV (tds T t) op vx vy ≠ .no → (eqGuard op t x y vx vy).run P w = .ok () w := by
            intro hne
            refine eqGuard_plain op t x y vx vy ?_
            cases vx <;> first | trivial | (exact hne (by cases vy <;> rfl))
          have hb := binV_ok (P := P) (w := w) hT op t vx vy
          simp only [binA]
          cases hr : binV (tds T t) op vx vy with
          | no => trivial
          | val v =>
            rw [hr] at hb
            refine exec_v he ?_
            rw [ex, ey, Sem.run_bind, hplain (by rw [hr]; simp), Result.andThen_ok]
            exact hb
          | nd c v =>
            rw [hr] at hb
            intro hc
            refine exec_v he ?_
            rw [ex, ey, Sem.run_bind, hplain (by rw [hr]; simp), Result.andThen_ok]
            exact hb hc
        | sl sz n f => simp only [binA]
      | ref i off =>
        rw [hqy] at hy
        simp only [AVal] at hy
        obtain ⟨b, _, hv⟩ := hy
        cases vx with
        | pointer p =>
          cases p with
          | none =>
            simp only [binA]
            cases hd : tds T t with
            | none => simp [ptrNil]
            | some ds =>
              cases ds with
              | ptr e =>
                obtain ⟨d, inf, h1, h2, h3⟩ := tds_some hT hd
                exact nilCase _ e d h1 (dsOf_ptr h3) _ _ (.inr ⟨rfl, rfl⟩) ex hv
              | _ => simp [ptrNil]
          | some q => simp only [binA]
        | _ => simp only [binA]
      | _ => simp only [binA]
    | sl sz n f => simp only [binA]
  | ref i off =>
    rw [hqx] at hx
    simp only [AVal] at hx
    obtain ⟨b, _, hv⟩ := hx
    cases hqy : opnd st y with
    | p dy =>
      rw [hqy] at hy
      cases dy with
      | v vy =>
        have ey : a.eval y = vy := AVal_pv.1 hy
        cases vy with
        | pointer p =>
          cases p with
          | none =>
            simp only [binA]
            cases hd : tds T t with
            | none => simp [ptrNil]
            | some ds =>
              cases ds with
              | ptr e =>
                obtain ⟨d, inf, h1, h2, h3⟩ := tds_some hT hd
                exact nilCase _ e d h1 (dsOf_ptr h3) _ _ (.inl ⟨rfl, rfl⟩) hv ey
              | _ => simp [ptrNil]
          | some q => simp only [binA]
        | _ => simp only [binA]
      | sl sz n f => simp only [binA]
    | _ => simp only [binA]
  | _ => simp only [binA]

theorem un_ok (h : Rel W0 g0 g st a w) {op : UnOp} {t : Nat} {x : Operand} (ho : o.op = .unOp op t x) : EfOk P g st a w o (ev T st (.unOp op t x)) := by
  have he : execOp a.eval o = (do pure (.value (← Op.unary op (a.eval x)))) := by unfold execOp; rw [ho]
  have hx := opnd_ok h x
  simp only [ev]
  apply EfOk.of_br
  cases hqx : opnd st x with
  | p dx =>
    rw [hqx] at hx
    cases dx with
    | v vx =>
      have ex : a.eval x = vx := AVal_pv.1 hx
      cases vx with
      | int k n =>
        cases op <;> first | trivial | (refine exec_v he ?_; rw [ex]; simp [Op.unary, Op.intArith, Op.intBits, bitsI]; try (cases k.signed <;> rfl))
      | bool b => cases op <;> first | trivial | (refine exec_v he ?_; rw [ex]; simp [Op.unary])
      | _ => simp only [unA]
    | sl sz n f => simp only [unA]
  | _ => simp only [unA]

theorem conv_ok (hT : TOk P T) (h : Rel W0 g0 g st a w) {s d : Nat} {x : Operand} (ho : o.op = .convert s d x) : EfOk P g st a w o (ev T st (.convert s d x)) := by
  have he : execOp a.eval o = (do pure (.value (← convert s d (a.eval x)))) := by unfold execOp; rw [ho]
  have hx := opnd_ok h x
  simp only [ev]
  apply EfOk.of_br
  cases hqx : opnd st x with
  | p dx =>
    rw [hqx] at hx
    cases dx with
    | v vx =>
      have ex : a.eval x = vx := AVal_pv.1 hx
      cases vx with
      | int k n =>
        simp only [convA]
        cases hs : tds T s with
        | none => simp
        | some s1 =>
          cases hd : tds T d with
          | none => simp
          | some d1 =>
            cases d1 with
            | int k' =>
              obtain ⟨ds, infs, p1, p2, p3⟩ := tds_some hT hs
              obtain ⟨dd, infd, q1, q2, q3⟩ := tds_some hT hd
              have := dsOf_int q3
              subst this
              refine exec_v he ?_
              rw [ex]
              simp [convert, run_underlying p1, run_underlying q1, Conv.intToInt]
            | _ => simp
      | string b =>
        simp only [convA]
        cases hs : tds T s with
        | none => simp
        | some s1 =>
          cases hd : tds T d with
          | none => cases s1 <;> simp
          | some d1 =>
            cases s1 <;> cases d1 <;> first | trivial | skip
            obtain ⟨ds, infs, p1, p2, p3⟩ := tds_some hT hs
            obtain ⟨dd, infd, q1, q2, q3⟩ := tds_some hT hd
            have e1 := dsOf_str p3
            have e2 := dsOf_str q3
            subst e1
            subst e2
            refine exec_v he ?_
            rw [ex]
            simp [convert, run_underlying p1, run_underlying q1]
      | _ => simp only [convA]
    | sl sz n f => simp only [convA]
  | _ => simp only [convA]

theorem fieldOf_some (hT : TOk P T) {s f off t : Nat} (h : fieldOf T s f = some (off, t)) : ∃ ff fd inf, P.underlying s = some (.struct ff) ∧ P.info? s = some inf ∧ ff[f]? = some fd ∧ fd.offset = off ∧ fd.type = t := by
  unfold fieldOf at h
  cases hd : tds T s with
  | none => simp [hd] at h
  | some ds =>
    cases ds with
    | strct fs =>
      obtain ⟨d, inf, h1, h2, h3⟩ := tds_some hT hd
      obtain ⟨ff, rfl, rfl⟩ := dsOf_strct h3
      simp only [hd, List.getElem?_map, Array.getElem?_toList] at h
      cases hf : ff[f]? with
      | none => simp [hf] at h
      | some fd =>
        simp [hf] at h
        exact ⟨ff, fd, inf, h1, h2, hf, h.1, h.2⟩
    | _ => simp [hd] at h

theorem fieldAddr_ok (hT : TOk P T) (h : Rel W0 g0 g st a w) {s f : Nat} {x : Operand} (ho : o.op = .fieldAddr s x f) : EfOk P g st a w o (ev T st (.fieldAddr s x f)) := by
  have he : execOp a.eval o = (do pure (.value (← Instr.fieldAt s (a.eval x) f))) := by unfold execOp; rw [ho]
  have hx := opnd_ok h x
  simp only [ev, fieldAddrA]
  cases hf : fieldOf T s f with
  | none => trivial
  | some q =>
    obtain ⟨off, t⟩ := q
    obtain ⟨ff, fd, infs, h1, h2, h3, rfl, rfl⟩ := fieldOf_some hT hf
    simp only
    cases ht : tget T fd.type with
    | none => trivial
    | some ti =>
      obtain ⟨d, inf, z, k1, k2, k3, rfl⟩ := tinfo_parts (hT _ ti ht)
      simp only
      cases hz : Nat.beq inf.size 0 with
      | true => trivial
      | false =>
        have hne : inf.size ≠ 0 := by
          intro e
          rw [e] at hz
          cases hz
        have run : ∀ b o', (Instr.fieldAt s (.pointer (some ⟨b, o', none⟩)) f).run P w = .ok (.pointer (some ⟨b, o' + fd.offset, none⟩)) w := by
          intro b o'
          have : (⟨b, o', none⟩ : Addr).add fd.offset = ⟨b, o' + fd.offset, none⟩ := Addr.add_lit ..
          simp [Instr.fieldAt, run_underlying h1, h3, Instr.sureAddr, fieldPlace, run_sizeOf' (w := w) k2, hne, this]
        cases hqx : opnd st x with
        | ref i k =>
          rw [hqx] at hx
          simp only [AVal] at hx
          obtain ⟨b, hb, hv⟩ := hx
          exact ⟨_, exec_v he (by rw [hv]; exact run b k), by simp only [AVal]; exact ⟨b, hb, rfl⟩⟩
        | imm cs k =>
          rw [hqx] at hx
          simp only [AVal] at hx
          obtain ⟨b, o', us, hv, r⟩ := hx
          exact ⟨_, exec_v he (by rw [hv]; exact run b _), by simp only [AVal]; exact ⟨b, o', us, by rw [Nat.add_assoc], r⟩⟩
        | _ => trivial

theorem field_ok (hT : TOk P T) (h : Rel W0 g0 g st a w) {s f : Nat} {x : Operand} (ho : o.op = .field s x f) : EfOk P g st a w o (ev T st (.field s x f)) := by
  have he : execOp a.eval o = (do pure (.value (← Instr.field s (a.eval x) f))) := by unfold execOp; rw [ho]
  have hx := opnd_ok h x
  simp only [ev, fieldA]
  cases hf : fieldOf T s f with
  | none => trivial
  | some q =>
    obtain ⟨off, t⟩ := q
    obtain ⟨ff, fd, infs, h1, h2, h3, rfl, rfl⟩ := fieldOf_some hT hf
    simp only
    cases hqx : opnd st x with
    | agg cs =>
      rw [hqx] at hx
      simp only [AVal] at hx
      obtain ⟨us, hv, hvs⟩ := hx
      simp only
      cases hr : rdA T fd.type cs fd.offset with
      | none => trivial
      | some y =>
        obtain ⟨v, k1, k2⟩ := part_ok (w := w) hT hvs hr
        exact ⟨v, exec_v he (by rw [hv]; simp [Instr.field, run_underlying h1, h3, asAgg, k1]), k2⟩
    | _ => trivial

theorem extract_ok (h : Rel W0 g0 g st a w) {x : Operand} {i : Nat} (ho : o.op = .extract x i) : EfOk P g st a w o (ev T st (.extract x i)) := by
  have he : execOp a.eval o = (do pure (.value (← Instr.extract (a.eval x) i))) := by unfold execOp; rw [ho]
  have hx := opnd_ok h x
  simp only [ev]
  cases hqx : opnd st x with
  | tup vs =>
    rw [hqx] at hx
    simp only [AVal] at hx
    obtain ⟨us, hv, hvs⟩ := hx
    simp only
    cases hb : Nat.blt i (lenA vs) with
    | false => trivial
    | true =>
      have hlt : i < vs.length := by
        rw [← lenA_eq]
        simpa [Nat.blt_eq] using hb
      obtain ⟨u, hu, hv2⟩ := hvs.get (getA_eq hlt)
      have hu' : us[i]? = some u := by simpa using hu
      exact ⟨u, exec_v he (by rw [hv]; simp [Instr.extract, hu']), hv2⟩
  | _ => trivial
end
end Go.Proofs.YtijakklhklcjhaaA
