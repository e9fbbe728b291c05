/- What is reckoned is what the machine does: operation by operation (fifth part: calls, rows that grow, what is put together). -/
import Derived.Test.YtijakklhklcjhaaAb9
namespace Go.Proofs.YtijakklhklcjhaaA
open Go Go.RowKit
set_option linter.unusedVariables false
set_option linter.unusedSimpArgs false

section
variable {P : Program} {T : TT} {W0 : World} {g0 g : Gh} {st : St} {a : Act} {w : World} {o : Oper}

/-- An append to a row of the call's own: in its own block, or in a new one. -/
theorem append_run (t ty e : TypeId) (i : TypeInfo) (z : Value) (size bytes : Nat) (ht : P.underlying t = some (.slice e)) (hi : P.info? e = some i) (hz : i.zero = some z)
    (hsize : i.size = size) (hby : i.bytes = bytes) (hzs : z.cells.size = size) (hsz : 0 < size)
    (v : Value) (n : Nat) (xs : List Value) (hown : w.ownsRow 0 e size v n xs)
    (ad : Addr) (m c : Nat) (news : List Value) (hl : news.length = m * size) (hnews : ∀ j u, news[j]? = some u → w.cell? (ad.add j) = some u) (h1 : ∀ u ∈ news, u.oneCell' = true)
    (h63 : n + m ≤ maxLen) (hbytes : (n + m) * bytes ≤ 140737488355328) :
    ∃ v' w', (Builtin.append_ #[t, t] ty #[v, .slice (some ad) m c]).run P w = .ok v' w' ∧ w'.ownsRow 0 e size v' (n + m) (xs ++ news) ∧
      (∀ b, v'.ownBlock = some b → b < w.heap.size → v.ownBlock = some b ∧ ∀ i, i < n * size → w'.cell? ⟨b, i, none⟩ = w.cell? ⟨b, i, none⟩) ∧
      w'.os = w.os ∧ w'.tape = w.tape ∧ w'.output = w.output ∧ w.heap.size ≤ w'.heap.size ∧ ∀ k, k < w.heap.size → some k ≠ v'.ownBlock → w'.heap[k]? = w.heap[k]? := by
  subst hsize
  subst hby
  have hsmall : n + m ≤ 9223372036854775807 := by simp only [maxLen] at h63; omega
  have hlen : (xs ++ news).length = (n + m) * i.size := by rw [List.length_append, hown.1, hl, Nat.add_mul]
  have grown : ∀ (old : Nat), old < n + m →
      (w.drew.alloc (.cells (xs.toArray ++ news.toArray ++ Builtin.zeroCells z.cells (grownCap w (n + m) old e - (n + m))) e)).ownsRow 0 e i.size
        (.slice (some ⟨w.heap.size, 0, none⟩) (n + m) (grownCap w (n + m) old e)) (n + m) (xs ++ news) := by
    intro old ho
    have hge := grownCap_ge w (n + m) old e
    have hcm : grownCap w (n + m) old e ≤ maxLen := grownCap_le_maxLen w (n + m) old e h63
    refine ⟨hlen, .inr ⟨w.heap.size, _, _, rfl, Nat.zero_le _, heap_alloc_new w.drew _, hge, hcm, ?_, ?_⟩⟩
    · simp only [Array.size_append, List.size_toArray, size_zeroCells, hzs, hown.1, hl, ← Nat.add_mul]
      congr 1
      omega
    · simp only [Array.toList_append, List.append_assoc]
      rw [← List.append_assoc, ← hlen]
      exact List.take_left
  have fresh : ∀ (o' : Obj) (c' : Nat), (∀ b, (Value.slice (some ⟨w.heap.size, 0, none⟩) (n + m) c').ownBlock = some b → b < w.heap.size → v.ownBlock = some b ∧ ∀ i', i' < n * i.size → (w.drew.alloc o').cell? ⟨b, i', none⟩ = w.cell? ⟨b, i', none⟩) ∧
      ∀ k, k < w.heap.size → some k ≠ (Value.slice (some ⟨w.heap.size, 0, none⟩) (n + m) c').ownBlock → (w.drew.alloc o').heap[k]? = w.heap[k]? := by
    intro o' c'
    refine ⟨fun b hb hlt => ?_, fun k hk _ => heap_alloc_old w.drew o' hk⟩
    simp only [Value.ownBlock, Option.some.injEq] at hb
    omega
  rcases hown.2 with ⟨rfl, rfl⟩ | ⟨g1, cap, cur, rfl, hbg, hg, hnc, hcm, hcs, htake⟩
  · have hx : xs = [] := List.eq_nil_of_length_eq_zero (by simpa using hown.1)
    subst hx
    by_cases hm : m = 0
    · subst hm
      have hn : news = [] := List.eq_nil_of_length_eq_zero (by simpa using hl)
      subst hn
      refine ⟨.slice none 0 0, w, ?_, World.ownsRow_nil w 0 e i.size, fun b hb => by simp [Value.ownBlock] at hb, rfl, rfl, rfl, Nat.le_refl _, fun _ _ _ => rfl⟩
      simp [Builtin.append_, run_underlying ht, sizeOf, typeInfo, hi, Builtin.lenOf, Builtin.firstCells, loadCells, loadCellsFrom]
    · have hr := run_append_nil (P := P) w t ty e i z ht hi hz ad m c news hl hnews (by omega) (by omega) (by have hb := hbytes; simp only [Nat.zero_add] at hb; omega)
      have hgr := grown 0 (by omega)
      have hf := fresh (.cells (news.toArray ++ Builtin.zeroCells z.cells (grownCap w m 0 e - m)) e) (grownCap w m 0 e)
      simp only [Nat.zero_add, List.nil_append, Array.empty_append] at hgr hf ⊢
      exact ⟨_, _, hr, hgr, hf.1, rfl, rfl, rfl, by simp, hf.2⟩
  · by_cases hroom : n + m ≤ cap
    · have hfit : n * i.size + news.length ≤ cur.size := by rw [hl, hcs, ← Nat.add_mul]; exact Nat.mul_le_mul_right _ hroom
      have hr := run_append_room (P := P) w t ty e i ht hi g1 n cap cur hg ad m c news hl hnews h1 hroom hfit
      refine ⟨_, _, hr, ⟨hlen, .inr ⟨g1, cap, _, rfl, hbg, setRow_heap w g1 cur _ e _ hg, hroom, hcm, ?_, ?_⟩⟩, ?_, rfl, rfl, rfl, by simp, fun k _ hk => setRow_other w g1 k _ (fun e => hk (by simp [Value.ownBlock, e]))⟩
      · simp only [List.size_toArray, List.length_append, List.length_take, List.length_drop, Array.length_toList]
        omega
      · rw [htake, ← hlen]
        exact List.take_left
      · intro b hb _
        simp only [Value.ownBlock, Option.some.injEq] at hb
        subst hb
        refine ⟨rfl, fun i' hi' => ?_⟩
        rw [cell_of_row _ g1 i' _ e (0, 0) (setRow_heap w g1 cur _ e _ hg), cell_of_row w g1 i' cur e (0, 0) hg]
        have e1 : (cur.toList.take (n * i.size) ++ news ++ cur.toList.drop (n * i.size + news.length)).toArray[i']? = cur[i']? := by
          rw [List.getElem?_toArray, List.append_assoc, List.getElem?_append_left (by simp; omega), List.getElem?_take, if_pos hi', Array.getElem?_toList]
        exact e1
    · have holds : ∀ j u, xs[j]? = some u → w.cell? ((⟨g1, 0, none⟩ : Addr).add j) = some u := hown.cells (g := g1) rfl
      have hr := run_append_grow (P := P) w t ty e i z ht hi hz ⟨g1, 0, none⟩ n cap xs hown.1 holds ad m c news hl hnews (by omega) (by omega) (growslice_fits (by omega) hbytes)
      have hgr := grown cap (by omega)
      have hf := fresh (.cells (xs.toArray ++ news.toArray ++ Builtin.zeroCells z.cells (grownCap w (n + m) cap e - (n + m))) e) (grownCap w (n + m) cap e)
      exact ⟨_, _, hr, hgr, hf.1, rfl, rfl, rfl, by simp, hf.2⟩

theorem exec_builtin {c : Call} {b : Builtin} (ho : o.op = .call c) (hb : c.callee = .builtin b) : ∃ cs, execOp a.eval o = builtin b c.argTypes o.type cs (c.args.map a.eval) := by
  refine ⟨c.args.map fun | .const _ => true | _ => false, ?_⟩
  unfold execOp
  rw [ho]
  simp only [resolve, hb, invoke, bind, pure, Sem.bind]
  rfl

/-- The cells of a row that is read, as values. -/
theorem sl_cells {sz n : Nat} {f : Nat → List D} {u : Value} (h : DVal g.ext w (.sl sz n f) u) : ∃ us : List Value, us.length = n * sz ∧ (∀ i, i < n → (f i).length = sz ∧ DCells g.ext w (f i) ((us.drop (i * sz)).take sz)) ∧ (∀ x ∈ us, x.oneCell' = true) ∧
    ((u = .slice none 0 0 ∧ n = 0 ∧ us = []) ∨ ∃ b o' c, u = .slice (some ⟨b, o', none⟩) n c ∧ n ≤ c ∧ o' + n * sz ≤ g.ext b ∧ ∀ i x, us[i]? = some x → w.cell? ⟨b, o' + i, none⟩ = some x) := by
  simp only [DVal] at h
  obtain ⟨us, ⟨hl, hs⟩, hf⟩ := h
  refine ⟨us, hl, hf, ?_, ?_⟩
  · intro x hx
    obtain ⟨j, hj⟩ := List.getElem?_of_mem hx
    have hlt : j < n * sz := by rw [← hl]; exact (List.getElem?_eq_some_iff.1 hj).1
    have hsz : 0 < sz := by
      rcases Nat.eq_zero_or_pos sz with rfl | h
      · omega
      · exact h
    have hi : j / sz < n := Nat.div_lt_of_lt_mul (by rw [Nat.mul_comm]; exact hlt)
    obtain ⟨hfl, hd⟩ := hf (j / sz) hi
    refine DCells_one hd x (List.mem_of_getElem? (i := j % sz) ?_)
    rw [List.getElem?_take, if_pos (Nat.mod_lt _ hsz), List.getElem?_drop]
    rw [show j / sz * sz + j % sz = j by rw [Nat.mul_comm]; exact Nat.div_add_mod j sz]
    exact hj
  · rcases hs with ⟨h1, h2⟩ | h
    · subst h2
      exact .inl ⟨h1, rfl, List.eq_nil_of_length_eq_zero (by simpa using hl)⟩
    · exact .inr h

theorem asRow_ok {sz m : Nat} {x : A} {gx : Nat → List D} {u : Value} (h : AVal g w x u) (hz : szRow sz x = true) (hr : asRow x = some (m, gx)) : DVal g.ext w (.sl sz m gx) u := by
  cases x with
  | p d =>
    cases d with
    | v vv =>
      cases vv with
      | slice ad len cap =>
        cases ad with
        | none =>
          cases len with
          | zero =>
            cases cap with
            | zero =>
              simp only [asRow, Option.some.injEq, Prod.mk.injEq] at hr
              obtain ⟨rfl, rfl⟩ := hr
              have := AVal_pv.1 h
              subst this
              simp only [DVal]
              exact ⟨[], ⟨by simp, .inl ⟨rfl, rfl⟩⟩, fun i hi => by omega⟩
            | succ _ => simp [asRow] at hr
          | succ _ => simp [asRow] at hr
        | some _ => simp [asRow] at hr
      | _ => simp [asRow] at hr
    | sl s n f =>
      simp only [asRow, Option.some.injEq, Prod.mk.injEq] at hr
      obtain ⟨rfl, rfl⟩ := hr
      simp only [szRow] at hz
      have := Nat.eq_of_beq_eq_true hz
      subst this
      simpa only [AVal] using h
  | own t e s n f =>
    simp only [asRow, Option.some.injEq, Prod.mk.injEq] at hr
    obtain ⟨rfl, rfl⟩ := hr
    simp only [szRow] at hz
    have := Nat.eq_of_beq_eq_true hz
    subst this
    simp only [AVal] at h
    exact h.2.1
  | _ => simp [asRow] at hr

/-- What both say of a row of the call's own: its cells. -/
theorem own_same {e sz n : Nat} {u : Value} {xs us : List Value} (ho : w.ownsRow 0 e sz u n xs) (hl : us.length = n * sz) (h : (u = .slice none 0 0 ∧ n = 0 ∧ us = []) ∨ ∃ b o' c, u = .slice (some ⟨b, o', none⟩) n c ∧ n ≤ c ∧ o' + n * sz ≤ g.ext b ∧ ∀ i x, us[i]? = some x → w.cell? ⟨b, o' + i, none⟩ = some x) : xs = us := by
  rcases h with ⟨_, rfl, rfl⟩ | ⟨b, o', c, rfl, _, _, hc⟩
  · exact List.eq_nil_of_length_eq_zero (by simpa using ho.1)
  · have hb : (Value.slice (some ⟨b, o', none⟩) n c).ownBlock = some b := rfl
    have h0 : o' = 0 := by
      rcases ho.2 with ⟨h, _⟩ | ⟨g1, cap, cur, h, _⟩
      · cases h
      · injection h with h
        injection h with h
        injection h
    subst h0
    have hcs := ho.cells hb
    refine List.ext_getElem? fun j => ?_
    rcases Nat.lt_or_ge j (n * sz) with hj | hj
    · have h1 := List.getElem?_eq_getElem (l := xs) (i := j) (by rw [ho.1]; exact hj)
      have h2 := List.getElem?_eq_getElem (l := us) (i := j) (by rw [hl]; exact hj)
      have k1 := hcs j _ h1
      have k2 := hc j _ h2
      rw [Nat.zero_add] at k2
      have : (⟨b, 0, none⟩ : Addr).add j = ⟨b, j, none⟩ := by rw [show (⟨b, 0, none⟩ : Addr).add j = ⟨b, 0 + j, none⟩ from Addr.add_lit .., Nat.zero_add]
      rw [this, k2] at k1
      rw [h1, h2]
      exact k1.symm
    · rw [List.getElem?_eq_none (by rw [ho.1]; exact hj), List.getElem?_eq_none (by rw [hl]; exact hj)]

/-- The cells of element i of two rows, one behind the other. -/
theorem ap_part {ext : Nat → Nat} {sz n m : Nat} {f gx : Nat → List D} {us vs : List Value} (hl : us.length = n * sz) (hl2 : vs.length = m * sz) (hf : ∀ i, i < n → (f i).length = sz ∧ DCells ext w (f i) ((us.drop (i * sz)).take sz))
    (hg : ∀ i, i < m → (gx i).length = sz ∧ DCells ext w (gx i) ((vs.drop (i * sz)).take sz)) : ∀ i, i < n + m → (apF n f gx i).length = sz ∧ DCells ext w (apF n f gx i) (((us ++ vs).drop (i * sz)).take sz) := by
  intro i hi
  unfold apF
  by_cases h : i < n
  · rw [if_pos h]
    obtain ⟨h1, h2⟩ := hf i h
    refine ⟨h1, ?_⟩
    have hmul : (i + 1) * sz ≤ n * sz := Nat.mul_le_mul_right _ h
    rw [Nat.add_mul, Nat.one_mul] at hmul
    rw [List.drop_append_of_le_length (by omega), List.take_append_of_le_length (by simp; omega)]
    exact h2
  · rw [if_neg h]
    obtain ⟨h1, h2⟩ := hg (i - n) (by omega)
    refine ⟨h1, ?_⟩
    have e1 : i * sz = us.length + (i - n) * sz := by rw [hl, ← Nat.add_mul, Nat.add_sub_cancel' (by omega)]
    rw [e1, List.drop_append]
    rw [show us.drop (us.length + (i - n) * sz) = [] from List.drop_eq_nil_of_le (by omega), List.nil_append, Nat.add_sub_cancel_left]
    exact h2

theorem append_ok (hT : TOk P T) (h : Rel W0 g0 g st a w) {c : Call} (ho : o.op = .call c) (hb : c.callee = .builtin .append) {s x : Operand} {t t' : Nat} (hargs : c.args = #[s, x]) (htys : c.argTypes = #[t, t']) : EfOk P g st a w o (appendA T st.tags t t' (opnd st s) (opnd st x)) := by
  have hs := opnd_ok h s
  have hx := opnd_ok h x
  unfold appendA
  cases hbt : Nat.beq t t' with
  | false => trivial
  | true =>
    have := Nat.eq_of_beq_eq_true hbt
    subst this
    have he : execOp a.eval o = (do pure (.value (← Builtin.append_ #[t, t] o.type #[a.eval s, a.eval x]))) := by
      obtain ⟨cs, e⟩ := exec_builtin (a := a) ho hb
      rw [e, hargs, htys]
      simp only [builtin, List.map_toArray, List.map_cons, List.map_nil]
    cases hd : tds T t with
    | none => trivial
    | some ds =>
      cases ds with
      | slice e =>
        obtain ⟨d, inft, q1, _, q3⟩ := tds_some hT hd
        have := dsOf_slice q3
        subst this
        simp only
        cases hte : tget T e with
        | none => trivial
        | some ti =>
          obtain ⟨de, inf, z, k1, k2, k3, rfl⟩ := tinfo_parts (hT e ti hte)
          simp only
          cases hchk : (Nat.ble inf.size 0 || !(Nat.beq z.cells.toList.length inf.size)) with
          | true => trivial
          | false =>
            simp only [Bool.or_eq_false_iff, Bool.not_eq_false'] at hchk
            have hsz : 0 < inf.size := by
              rcases Nat.eq_zero_or_pos inf.size with h0 | h0
              · rw [h0] at hchk
                simp [Nat.ble] at hchk
              · exact h0
            have hzs : z.cells.size = inf.size := by
              have := Nat.eq_of_beq_eq_true hchk.2
              rwa [Array.length_toList] at this
            cases hzr : szRow inf.size (opnd st x) with
            | false => trivial
            | true =>
              cases har : asRow (opnd st x) with
              | none => trivial
              | some mg =>
                obtain ⟨m, gx⟩ := mg
                have hdx := asRow_ok hx hzr har
                obtain ⟨vs, vl, vf, v1, vc⟩ := sl_cells hdx
                -- the source is a row; the target is owned
                have main : ∀ (n : Nat) (f : Nat → List D) (us : List Value) (kill : Option Nat), w.ownsRow 0 e inf.size (a.eval s) n us → us.length = n * inf.size → (∀ i, i < n → (f i).length = inf.size ∧ DCells g.ext w (f i) ((us.drop (i * inf.size)).take inf.size)) →
                    (∀ b, (a.eval s).ownBlock = some b → ∃ t0, kill = some t0 ∧ g.tbl[t0]? = some (some b) ∧ g.ext b = n * inf.size) → (∀ t0, kill = some t0 → g.alive[t0]? = some true) →
                    ∀ F : Nat → List D, (∀ i, i < n + m → F i = apF n f gx i) → EfOk P g st a w o (.row ((n + m) * inf.bytes ≤ 140737488355328 ∧ n + m ≤ maxLen) kill e inf.size (n + m) F) := by
                  intro n f us kill hown hul huf hblk hkill F hF
                  rintro ⟨c1, c2⟩
                  have part := ap_part hul vl huf vf
                  have part' : ∀ i, i < n + m → (F i).length = inf.size ∧ DCells g.ext w (F i) (((us ++ vs).drop (i * inf.size)).take inf.size) := fun i hi => by rw [hF i hi]; exact part i hi
                  rcases vc with ⟨ex, rfl, rfl⟩ | ⟨b, o', c0, ex, hmc, hext, hcell⟩
                  · refine ⟨a.eval s, w, us ++ [], exec_v he ?_, by rw [List.append_nil]; exact hown, part', ?_, hkill, rfl, rfl, rfl, Nat.le_refl _, fun _ _ _ => rfl⟩
                    · rw [ex]
                      exact run_append_owned_none w 0 t o.type e inf inf.size q1 k2 _ n us hown
                    · intro b hbk _
                      obtain ⟨t0, r1, r2, r3⟩ := hblk b hbk
                      exact ⟨t0, n, r1, r2, r3, by omega, fun _ _ => rfl⟩
                  · obtain ⟨v', w', r1, r2, r3, r4, r5, r6, r7, r8⟩ := append_run (P := P) (w := w) t o.type e inf z inf.size inf.bytes q1 k2 k3 rfl rfl hzs hsz (a.eval s) n us hown ⟨b, o', none⟩ m c0 vs vl
                      (fun j u hu => by rw [show (⟨b, o', none⟩ : Addr).add j = ⟨b, o' + j, none⟩ from Addr.add_lit ..]; exact hcell j u hu) v1 c2 c1
                    refine ⟨v', w', us ++ vs, exec_v he (by rw [ex]; exact r1), r2, part', ?_, hkill, r4, r5, r6, r7, r8⟩
                    intro b' hb' hlt
                    obtain ⟨p1, p2⟩ := r3 b' hb' hlt
                    obtain ⟨t0, y1, y2, y3⟩ := hblk b' p1
                    exact ⟨t0, n, y1, y2, y3, by omega, p2⟩
                cases hqs : opnd st s with
                | p ds =>
                  rw [hqs] at hs
                  cases ds with
                  | v sv =>
                    have es : a.eval s = sv := AVal_pv.1 hs
                    cases sv with
                    | slice ad len cap =>
                      cases ad with
                      | some _ => trivial
                      | none =>
                        cases len with
                        | succ _ => trivial
                        | zero =>
                          cases cap with
                          | succ _ => trivial
                          | zero =>
                            have := main 0 (fun _ => []) [] none (by rw [es]; exact World.ownsRow_nil _ _ _ _) (by simp) (fun i hi => by omega) (fun b hb' => by rw [es] at hb'; simp [Value.ownBlock] at hb') (fun _ hk => by cases hk) gx (fun i hi => by simp [apF])
                            simpa only [Nat.zero_add] using this
                    | _ => trivial
                  | sl _ _ _ => trivial
                | own q e' sz n f =>
                  rw [hqs] at hs
                  simp only
                  cases he1 : Nat.beq e e' with
                  | false => trivial
                  | true =>
                    cases he2 : Nat.beq sz inf.size with
                    | false => trivial
                    | true =>
                      have := Nat.eq_of_beq_eq_true he1
                      subst this
                      have := Nat.eq_of_beq_eq_true he2
                      subst this
                      cases htg : st.tags[q]? with
                      | none => trivial
                      | some bb =>
                        cases bb with
                        | false => trivial
                        | true =>
                          simp only [AVal] at hs
                          obtain ⟨s1, s2, s3⟩ := hs
                          have hal : g.alive[q]? = some true := by rw [h.hp.tag]; exact htg
                          obtain ⟨o1, ⟨xs, o2⟩, o3⟩ := s3 hal
                          obtain ⟨us, ul, uf, u1, uc⟩ := sl_cells s2
                          have hxs := own_same o2 ul uc
                          subst hxs
                          exact main n f xs (some q) o2 ul uf (fun b hb' => ⟨q, rfl, by rw [o1, hb'], o3 b hb'⟩) (fun t0 ht0 => by cases ht0; exact hal) _ (fun i hi => rfl)
                | _ => trivial
      | _ => trivial
end
end Go.Proofs.YtijakklhklcjhaaA
