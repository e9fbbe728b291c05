/- What is reckoned is what the machine does: operation by operation (second part: memory). -/
import Derived.Test.YtijakklhklcjhaaAb6
namespace Go.Proofs.YtijakklhklcjhaaA
open Go Go.RowKit
set_option linter.unusedVariables false
set_option linter.unusedSimpArgs false

theorem lenA_eq : ∀ (l : List A), lenA l = l.length
  | [] => rfl
  | x :: l => by simp [lenA, lenA_eq l]
theorem getA_eq : ∀ {l : List A} {i : Nat}, i < l.length → l[i]? = some (getA l i)
  | [], i, h => by simp at h
  | x :: l, 0, h => rfl
  | x :: l, i + 1, h => by
    simp only [List.length_cons] at h
    simp [getA, getA_eq (l := l) (i := i) (by omega)]
theorem setA_eq : ∀ (l : List A) (i : Nat) (x : A), setA l i x = l.set i x
  | [], i, x => by simp [setA]
  | y :: l, 0, x => rfl
  | y :: l, i + 1, x => by simp [setA, setA_eq l i x]
theorem wrA_len : ∀ (ys cs : List A) (off : Nat), (wrA cs off ys).length = cs.length
  | [], cs, off => rfl
  | y :: ys, cs, off => by simp [wrA, wrA_len ys, setA_eq]

/-- Values written one behind the other. -/
def wrV : List Value → Nat → List Value → List Value
  | cs, _, [] => cs
  | cs, off, y :: ys => wrV (cs.set off y) (off + 1) ys
theorem wrV_len : ∀ (ys cs : List Value) (off : Nat), (wrV cs off ys).length = cs.length
  | [], cs, off => rfl
  | y :: ys, cs, off => by simp [wrV, wrV_len ys]
theorem wrV_eq : ∀ (ys cs : List Value) (off : Nat), off + ys.length ≤ cs.length → wrV cs off ys = cs.take off ++ ys ++ cs.drop (off + ys.length)
  | [], cs, off, h => by simp [wrV]
  | y :: ys, cs, off, h => by
    simp only [List.length_cons] at h
    rw [wrV, wrV_eq ys _ _ (by simp; omega), List.take_set, List.drop_set_of_lt (by omega)]
    have e1 : (cs.take (off + 1)).set off y = cs.take off ++ [y] := by
      rw [List.take_succ_eq_append_getElem (by omega), List.set_append_right _ _ (by simp; omega)]
      simp [List.length_take, Nat.min_eq_left (show off ≤ cs.length by omega)]
    rw [e1, List.length_cons, show off + 1 + ys.length = off + (ys.length + 1) by omega]
    simp
theorem wrA_ok {g : Gh} {w : World} : ∀ {ys cs : List A} {vs us : List Value} (off : Nat), AVals g w cs us → AVals g w ys vs → AVals g w (wrA cs off ys) (wrV us off vs)
  | [], cs, vs, us, off, h, k => by
    simp only [AVals] at k
    subst k
    exact h
  | y :: ys, cs, vs, us, off, h, k => by
    simp only [AVals] at k
    obtain ⟨v, vs', rfl, k1, k2⟩ := k
    simp only [wrA, wrV, setA_eq]
    exact wrA_ok (off + 1) (h.set off k1) k2

theorem oneA_ok {g : Gh} {w : World} {x : A} {u : Value} (h1 : oneA x = true) (h : AVal g w x u) : u.oneCell' = true := by
  cases x with
  | dead => simp [oneA] at h1
  | agg cs => simp [oneA] at h1
  | tup cs => simp [oneA] at h1
  | p d =>
    cases d with
    | v x =>
      simp only [AVal, DVal] at h
      subst h
      exact h1
    | sl sz n f =>
      simp only [AVal, DVal] at h
      obtain ⟨us, h2, _⟩ := h
      rcases h2.2 with ⟨rfl, _⟩ | ⟨b, o, c, rfl, _⟩ <;> rfl
  | ref o off =>
    simp only [AVal] at h
    obtain ⟨b, _, rfl⟩ := h
    rfl
  | imm cs off =>
    simp only [AVal] at h
    obtain ⟨b, o, us, rfl, _⟩ := h
    rfl
  | own t e sz n f =>
    simp only [AVal, DVal] at h
    obtain ⟨_, ⟨us, h2, _⟩, _⟩ := h
    rcases h2.2 with ⟨rfl, _⟩ | ⟨b, o, c, rfl, _⟩ <;> rfl
  | sref o off n =>
    simp only [AVal] at h
    obtain ⟨b, c, _, rfl, _⟩ := h
    rfl
  | fn f caps =>
    simp only [AVal] at h
    obtain ⟨us, rfl, _⟩ := h
    rfl
theorem onesA_ok {g : Gh} {w : World} : ∀ {xs : List A} {us : List Value}, onesA xs = true → AVals g w xs us → allOne us
  | [], us, h1, h => by
    simp only [AVals] at h
    subst h
    intro u hu
    simp at hu
  | x :: xs, us, h1, h => by
    simp only [AVals] at h
    obtain ⟨u, us', rfl, h2, h3⟩ := h
    simp only [onesA] at h1
    cases hx : oneA x with
    | false => simp [hx] at h1
    | true =>
      rw [hx] at h1
      intro v hv
      rcases List.mem_cons.1 hv with rfl | hv
      · exact oneA_ok hx h2
      · exact onesA_ok h1 h3 v hv
theorem ones_one {x : A} (h : onesA [x] = true) : oneA x = true := by
  simp only [onesA] at h
  cases hx : oneA x with
  | true => rfl
  | false => simp [hx] at h
/-- The cells of a value. -/
theorem cellsA_ok {g : Gh} {w : World} {x : A} {u : Value} (h : AVal g w x u) (h1 : onesA (cellsA x) = true) : AVals g w (cellsA x) u.cells.toList := by
  have single : ∀ y : A, cellsA y = [y] → oneA y = true → AVal g w y u → AVals g w [y] u.cells.toList := by
    intro y _ hy hv
    have := oneA_ok hy hv
    have e : u.cells.toList = [u] := by cases u <;> simp_all [Value.cells, Value.oneCell']
    rw [e]
    simp only [AVals]
    exact ⟨u, [], rfl, hv, rfl⟩
  cases x with
  | agg cs =>
    simp only [AVal] at h
    obtain ⟨us, rfl, h2⟩ := h
    exact h2
  | dead => simp [cellsA, onesA, oneA] at h1
  | tup cs => simp [cellsA, onesA, oneA] at h1
  | p d => exact single _ rfl (ones_one h1) h
  | ref o off => exact single _ rfl rfl h
  | imm cs off => exact single _ rfl rfl h
  | own t e sz n f => exact single _ rfl rfl h
  | sref o off n => exact single _ rfl rfl h
  | fn f caps => exact single _ rfl rfl h
theorem allOneB_ok : ∀ {us : List Value}, allOneB us = true → allOne us
  | [], h => fun u hu => by simp at hu
  | x :: xs, h => by
    simp only [allOneB] at h
    cases hx : x.oneCell' with
    | false => simp [hx] at h
    | true =>
      rw [hx] at h
      intro v hv
      rcases List.mem_cons.1 hv with rfl | hv
      · exact hx
      · exact allOneB_ok h v hv

section
variable {P : Program} {T : TT} {W0 : World} {g0 g : Gh} {st : St} {a : Act} {w : World} {o : Oper}

theorem agg_isRow {d : TypeDesc} {s b : Nat} {z : List Value} (h : (⟨dsOf d, s, b, z⟩ : TI).agg = true) : d.isRow = true := by
  cases d <;> simp_all [TI.agg, dsOf, TypeDesc.isRow]
theorem run_isAgg {t : Nat} {d : TypeDesc} (h : P.underlying t = some d) {s b : Nat} {z : List Value} : (isAgg t).run P w = .ok ((⟨dsOf d, s, b, z⟩ : TI).agg) w := by
  unfold isAgg
  simp only [Sem.run_bind, run_underlying h, Result.andThen_ok]
  cases d <;> simp [TI.agg, dsOf, go_sem]

theorem run_sizeOf' {t : Nat} {inf : TypeInfo} (h : P.info? t = some inf) : (sizeOf t).run P w = .ok inf.size w := by
  simp [sizeOf, typeInfo, h]
/-- A load of what stands at ⟨b, o⟩. -/
theorem rdA_ok (hT : TOk P T) {t : Nat} {cs : List A} {us : List Value} {b o' off : Nat} {x : A} (h : AVals g w cs us) (hr : rdA T t cs off = some x) (hc : ∀ i v, us[i]? = some v → w.cell? ⟨b, o' + i, none⟩ = some v) :
    ∃ v, (Instr.loadAt t (.pointer (some ⟨b, o' + off, none⟩))).run P w = .ok v w ∧ AVal g w x v := by
  unfold rdA at hr
  cases ht : tget T t with
  | none => simp [ht] at hr
  | some ti =>
    obtain ⟨d, inf, z, h1, h2, h3, rfl⟩ := tinfo_parts (hT t ti ht)
    rw [ht] at hr
    have hl := h.length
    cases ha : (⟨dsOf d, inf.size, inf.bytes, z.cells.toList⟩ : TI).agg with
    | true =>
      simp only [ha] at hr
      cases hb : Nat.ble (off + inf.size) (lenA cs) with
      | false => simp [hb] at hr
      | true =>
        simp only [hb, Option.some.injEq] at hr
        subst hr
        have hle : off + inf.size ≤ us.length := by
          rw [hl, ← lenA_eq]
          exact Nat.le_of_ble_eq_true hb
        have hlen : ((us.drop off).take inf.size).length = inf.size := by simp; omega
        refine ⟨_, run_loadAt_mid w b (o' + off) t ((us.drop off).take inf.size) d ?_ h1 (agg_isRow ha) (by rw [h2, hlen]; rfl), ?_⟩
        · intro j v hv
          rw [List.getElem?_take] at hv
          split at hv
          · rw [List.getElem?_drop] at hv
            rw [Nat.add_assoc]
            exact hc _ _ hv
          · cases hv
        · simp only [AVal]
          exact ⟨_, rfl, (h.drop off).take inf.size⟩
    | false =>
      simp only [ha] at hr
      cases hb : Nat.blt off (lenA cs) with
      | false => simp [hb] at hr
      | true =>
        simp only [hb, Option.some.injEq] at hr
        subst hr
        have hlt : off < cs.length := by
          rw [← lenA_eq]
          simpa [Nat.blt_eq] using hb
        obtain ⟨u, hu, hv⟩ := h.get (getA_eq hlt)
        refine ⟨u, ?_, hv⟩
        have hcell := hc off u hu
        simp only [Instr.loadAt, Instr.sureAddr, Sem.run_bind, Sem.run_pure, Result.andThen_ok, loadVar, run_isAgg (w := w) h1 (s := inf.size) (b := inf.bytes) (z := z.cells.toList), ha, Bool.false_eq_true, if_false, run_load, hcell]

theorem part_ok (hT : TOk P T) {t : Nat} {cs : List A} {us : Array Value} {off : Nat} {x : A} (h : AVals g w cs us.toList) (hr : rdA T t cs off = some x) : ∃ v, (part t us off).run P w = .ok v w ∧ AVal g w x v := by
  unfold rdA at hr
  cases ht : tget T t with
  | none => simp [ht] at hr
  | some ti =>
    obtain ⟨d, inf, z, h1, h2, h3, rfl⟩ := tinfo_parts (hT t ti ht)
    rw [ht] at hr
    have hl := h.length
    cases ha : (⟨dsOf d, inf.size, inf.bytes, z.cells.toList⟩ : TI).agg with
    | true =>
      simp only [ha] at hr
      cases hb : Nat.ble (off + inf.size) (lenA cs) with
      | false => simp [hb] at hr
      | true =>
        simp only [hb, Option.some.injEq] at hr
        subst hr
        refine ⟨.agg (us.extract off (off + inf.size)), ?_, ?_⟩
        · simp [part, run_isAgg (w := w) h1 (s := inf.size) (b := inf.bytes) (z := z.cells.toList), ha, sizeOf, typeInfo, h2]
        · simp only [AVal]
          refine ⟨_, rfl, ?_⟩
          have : (us.extract off (off + inf.size)).toList = (us.toList.drop off).take inf.size := by
            rw [Array.toList_extract, List.extract_eq_take_drop]
            simp
          rw [this]
          exact (h.drop off).take inf.size
    | false =>
      simp only [ha] at hr
      cases hb : Nat.blt off (lenA cs) with
      | false => simp [hb] at hr
      | true =>
        simp only [hb, Option.some.injEq] at hr
        subst hr
        have hlt : off < cs.length := by
          rw [← lenA_eq]
          simpa [Nat.blt_eq] using hb
        obtain ⟨u, hu, hv⟩ := h.get (getA_eq hlt)
        refine ⟨u, ?_, hv⟩
        have hu' : us[off]? = some u := by simpa using hu
        simp [part, run_isAgg (w := w) h1 (s := inf.size) (b := inf.bytes) (z := z.cells.toList), ha, hu']

theorem exec_v {s : Sem Value} {v : Value} {w' : World} (h : execOp a.eval o = (do pure (.value (← s)))) (hr : s.run P w = .ok v w') : (execOp a.eval o).run P w = .ok (.value v) w' := by
  rw [h, Sem.run_bind, hr, Result.andThen_ok, Sem.run_pure]
theorem exec_u {s : Sem Unit} {w' : World} (h : execOp a.eval o = (do s; pure .skip)) (hr : s.run P w = .ok () w') : (execOp a.eval o).run P w = .ok .skip w' := by
  rw [h, Sem.run_bind, hr, Result.andThen_ok, Sem.run_pure]

theorem obCells (h : Rel W0 g0 g st a w) {i : Nat} {cs : List A} (ho : obGet st.objs i = .cells cs) {b : Nat} (hb : g.blks[i]? = some b) : ∃ us T, w.heap[b]? = some (.cells us T (0, 0)) ∧ AVals g w cs us.toList ∧ allOne us.toList :=
  h.hp.ob i _ b (obGet_live ho rfl) hb

theorem cell_row {b : Nat} {us : Array Value} {T : Nat} {f : Nat × Nat} (h : w.heap[b]? = some (.cells us T f)) (i : Nat) (v : Value) (hv : us.toList[i]? = some v) : w.cell? ⟨b, i, none⟩ = some v := by
  rw [cell_of_row w b i us T f h]
  simpa using hv

theorem load_ok (hT : TOk P T) (h : Rel W0 g0 g st a w) {t : Nat} {x : Operand} (ho : o.op = .load t x) : EfOk P g st a w o (loadA T st t (opnd st x)) := by
  have hx := opnd_ok h x
  have he : execOp a.eval o = (do pure (.value (← Instr.loadAt t (a.eval x)))) := by unfold execOp; rw [ho]
  cases hq : opnd st x with
  | ref i off =>
    rw [hq] at hx
    simp only [AVal] at hx
    obtain ⟨b, hb, hv⟩ := hx
    simp only [loadA]
    cases hg : obGet st.objs i with
    | cells cs =>
      simp only
      cases hr : rdA T t cs off with
      | none => trivial
      | some y =>
        obtain ⟨us, T', h1, h2, h3⟩ := obCells h hg hb
        obtain ⟨v, k1, k2⟩ := rdA_ok (w := w) (b := b) (o' := 0) hT h2 hr (fun i v hv => by rw [Nat.zero_add]; exact cell_row h1 i v hv)
        rw [Nat.zero_add] at k1
        exact ⟨v, exec_v he (by rw [hv]; exact k1), k2⟩
    | dead => trivial
    | iter s p => trivial
  | imm cs off =>
    rw [hq] at hx
    simp only [AVal] at hx
    obtain ⟨b, o', us, hv, h2, h3, h4⟩ := hx
    simp only [loadA]
    cases hr : rdA T t (cs.map .p) off with
    | none => trivial
    | some y =>
      have hav : ∀ {cs : List D} {us : List Value}, DCells g.ext w cs us → AVals g w (cs.map .p) us := by
        intro cs
        induction cs with
        | nil => intro us h; simpa [DCells, AVals] using h
        | cons c cs ih =>
          intro us h
          simp only [DCells] at h
          obtain ⟨u, us', rfl, _, k1, k2⟩ := h
          simp only [List.map_cons, AVals]
          exact ⟨u, us', rfl, by simpa only [AVal] using k1, ih k2⟩
      obtain ⟨v, k1, k2⟩ := rdA_ok (w := w) (b := b) (o' := o') hT (hav h3) hr h4
      exact ⟨v, exec_v he (by rw [hv]; exact k1), k2⟩
  | _ => trivial

theorem setRow_other' (g1 k : Nat) (cs : Array Value) (h : k ≠ g1) : (w.setRow g1 cs).heap[k]? = w.heap[k]? := by
  simp only [World.setRow, Array.getElem?_modify]
  rw [if_neg (Ne.symm h)]
theorem setRow_here {b : Nat} {us : Array Value} {T' : Nat} {f : Nat × Nat} (h : w.heap[b]? = some (.cells us T' f)) (cs : Array Value) : (w.setRow b cs).heap[b]? = some (.cells cs T' f) := by
  simp only [World.setRow, Array.getElem?_modify]
  simp [h]

theorem store_ok (hT : TOk P T) (h : Rel W0 g0 g st a w) {t : Nat} {x y : Operand} (ho : o.op = .store t x y) : EfOk P g st a w o (storeA T st t (opnd st y) (opnd st x)) := by
  have hx := opnd_ok h x
  have hy := opnd_ok h y
  have he : execOp a.eval o = (do Instr.storeAt t (a.eval x) (a.eval y); pure .skip) := by unfold execOp; rw [ho]
  cases hq : opnd st x with
  | ref i off =>
    rw [hq] at hx
    simp only [AVal] at hx
    obtain ⟨b, hb, hv⟩ := hx
    simp only [storeA]
    cases hg : obGet st.objs i with
    | cells cs =>
      cases ht : tget T t with
      | none => trivial
      | some ti =>
        obtain ⟨d, inf, z, h1, h2, h3, rfl⟩ := tinfo_parts (hT t ti ht)
        simp only
        cases e1 : Nat.beq (lenA (cellsA (opnd st y))) inf.size with
        | false => trivial
        | true =>
          cases e2 : Nat.ble (off + inf.size) (lenA cs) with
          | false => trivial
          | true =>
            cases e3 : onesA (cellsA (opnd st y)) with
            | false => trivial
            | true =>
              obtain ⟨us, T', k1, k2, k3⟩ := obCells h hg hb
              have c1 := cellsA_ok hy e3
              have c2 := onesA_ok e3 c1
              have hsz : (a.eval y).cells.size = inf.size := by
                have := c1.length
                rw [Array.length_toList] at this
                rw [this, ← lenA_eq]
                exact Nat.eq_of_beq_eq_true e1
              have hle : off + inf.size ≤ us.size := by
                have := k2.length
                rw [Array.length_toList] at this
                rw [this, ← lenA_eq]
                exact Nat.le_of_ble_eq_true e2
              have hst := run_storeCells_at P b off T' (a.eval y).cells.toList 0 us w k1 (by simpa [hsz] using hle) c2
              refine ⟨b, (us.toList.take off ++ (a.eval y).cells.toList ++ us.toList.drop (off + (a.eval y).cells.toList.length)).toArray, T', _, hb, by rw [hg]; rfl, exec_u he ?_, setRow_here k1 _, ?_, ?_, rfl, rfl, rfl, by simp [World.setRow], fun k hk => setRow_other' b k _ hk⟩
              · simp only [Nat.add_zero] at hst
                simp only [hv, Instr.storeAt, Instr.sureAddr, Sem.run_bind, Sem.run_pure, Result.andThen_ok, storeVar, run_sizeOf' (w := w) h2, hsz, ne_eq, not_true_eq_false, if_false, hst]
              · have := wrA_ok off k2 c1
                rw [wrV_eq _ _ _ (by simpa [hsz] using hle)] at this
                simpa using this
              · intro u hu
                simp only [List.mem_append] at hu
                rcases hu with (hu | hu) | hu
                · exact k3 u (List.mem_of_mem_take hu)
                · exact c2 u hu
                · exact k3 u (List.mem_of_mem_drop hu)
    | dead => trivial
    | iter s p => trivial
  | _ => trivial
end
end Go.Proofs.YtijakklhklcjhaaA
