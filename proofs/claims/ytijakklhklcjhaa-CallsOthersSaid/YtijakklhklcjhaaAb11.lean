/- What is reckoned is what the machine does: operation by operation (sixth part: what is put together, lengths, least and greatest; all). -/
import Derived.Test.YtijakklhklcjhaaAb10
import Derived.Laws.Tables
import Derived.Great.BuildSlice
namespace Go.Proofs.YtijakklhklcjhaaA
open Go Go.RowKit
set_option linter.unusedVariables false
set_option linter.unusedSimpArgs false

section
variable {P : Program} {T : TT} {W0 : World} {g0 g : Gh} {st : St} {a : Act} {w : World} {o : Oper}

theorem foldl_wrV (off : Nat) : ∀ (vs : List Value) (k : Nat) (cells : Array Value), ((vs.zipIdx k).foldl (fun cs x => cs.setIfInBounds (off + x.2) x.1) cells).toList = wrV cells.toList (off + k) vs
  | [], k, cells => by simp [wrV]
  | v :: vs, k, cells => by
    simp only [List.zipIdx_cons, List.foldl_cons, wrV]
    rw [foldl_wrV off vs (k + 1)]
    simp [Nat.add_assoc]

theorem fillA_ok {place : Nat → Option (Nat × Nat)} : ∀ {parts : List (Nat × A)} {vparts : List (Nat × Value)} {cs : List A} {us : Array Value} {cs' : List A}, AVals g w cs us.toList → vparts.length = parts.length →
    (∀ (i : Nat) p v, parts[i]? = some p → vparts[i]? = some v → v.1 = p.1 ∧ AVal g w p.2 v.2) → fillA T place cs parts = some cs' → ∃ us', Instr.fill place us vparts = some us' ∧ AVals g w cs' us'.toList
  | [], [], cs, us, cs', h, hl, hp, hf => by
    simp only [fillA, Option.some.injEq] at hf
    subst hf
    exact ⟨us, rfl, h⟩
  | [], _ :: _, cs, us, cs', h, hl, hp, hf => by simp at hl
  | _ :: _, [], cs, us, cs', h, hl, hp, hf => by simp at hl
  | (i, x) :: parts, (j, v) :: vparts, cs, us, cs', h, hl, hp, hf => by
    obtain ⟨h1, h2⟩ := hp 0 _ _ rfl rfl
    simp only at h1 h2
    subst h1
    simp only [fillA] at hf
    cases hpl : place j with
    | none => simp [hpl] at hf
    | some q =>
      obtain ⟨off, sz⟩ := q
      simp only [hpl] at hf
      cases e1 : Nat.beq (lenA (cellsA x)) sz with
      | false => simp [e1] at hf
      | true =>
        cases e2 : Nat.ble (off + sz) (lenA cs) with
        | false => simp [e1, e2] at hf
        | true =>
          cases e3 : onesA (cellsA x) with
          | false => simp [e1, e2, e3] at hf
          | true =>
            simp only [e1, e2, e3] at hf
            have c1 := cellsA_ok h2 e3
            have hsz : v.cells.size = sz := by
              have := c1.length
              rw [Array.length_toList] at this
              rw [this, ← lenA_eq]
              exact Nat.eq_of_beq_eq_true e1
            have hle : off + sz ≤ us.size := by
              have := h.length
              rw [Array.length_toList] at this
              rw [this, ← lenA_eq]
              exact Nat.le_of_ble_eq_true e2
            have hw : AVals g w (wrA cs off (cellsA x)) (v.cells.zipIdx.foldl (fun cs x => cs.setIfInBounds (off + x.2) x.1) us).toList := by
              rw [← Array.foldl_toList, Array.toList_zipIdx, foldl_wrV]
              exact wrA_ok off h c1
            obtain ⟨us', r1, r2⟩ := fillA_ok hw (by simpa using hl) (fun i p v h1 h2 => hp (i + 1) p v (by simpa using h1) (by simpa using h2)) hf
            refine ⟨us', ?_, r2⟩
            simp only [Instr.fill, hpl, hsz, ne_eq, not_true_eq_false, decide_false, Bool.false_or, decide_eq_true_eq]
            rw [if_neg (by omega)]
            exact r1

theorem placesT_ok (hT : TOk P T) : ∀ {ff : List Field} {pl : List (Nat × Nat)}, placesT T (ff.map fun f => (f.offset, f.type, f.name == "_")) = some pl → ff.mapM (fun f => (P.info? f.type).map fun i => (f.offset, i.size)) = some pl
  | [], pl, h => by
    simp only [List.map_nil, placesT, Option.some.injEq] at h
    subst h
    rfl
  | f :: ff, pl, h => by
    simp only [List.map_cons, placesT] at h
    cases ht : tget T f.type with
    | none => simp [ht] at h
    | some tu =>
      cases hr : placesT T (ff.map fun f => (f.offset, f.type, f.name == "_")) with
      | none => simp [ht, hr] at h
      | some r =>
        simp only [ht, hr, Option.some.injEq] at h
        subst h
        obtain ⟨d, inf, z, h1, h2, h3, rfl⟩ := tinfo_parts (hT _ _ ht)
        simp [List.mapM_cons, h2, placesT_ok hT hr]

theorem parts_ok (h : Rel W0 g0 g st a w) (parts : Array (Nat × Operand)) : ∀ (i : Nat) p v, (parts.toList.map fun q => (q.1, opnd st q.2))[i]? = some p → ((parts.map fun (i, x) => (i, a.eval x)).toList)[i]? = some v → v.1 = p.1 ∧ AVal g w p.2 v.2 := by
  intro i p v h1 h2
  rw [List.getElem?_map] at h1
  rw [Array.toList_map, List.getElem?_map] at h2
  cases hq : parts.toList[i]? with
  | none => simp [hq] at h1
  | some q =>
    simp only [hq, Option.map_some, Option.some.injEq] at h1 h2
    subst h1
    subst h2
    exact ⟨rfl, opnd_ok h _⟩

theorem build_ok (hT : TOk P T) (h : Rel W0 g0 g st a w) {t : Nat} {parts : Array (Nat × Operand)} (ho : o.op = .build t parts) : EfOk P g st a w o (ev T st (.build t parts)) := by
  have he : execOp a.eval o = (do pure (.value (← Instr.build t (parts.map fun (i, x) => (i, a.eval x))))) := by unfold execOp; rw [ho]
  simp only [ev, buildA]
  have fin : ∀ us', P.built t (parts.map fun (i, x) => (i, a.eval x)).toList = some us' → ∀ cs', AVals g w cs' us'.toList → EfOk P g st a w o (.val (.agg cs')) := by
    intro us' hb cs' hv
    exact ⟨.agg us', exec_v he (run_build w t _ us' hb), by simp only [AVal]; exact ⟨us', rfl, hv⟩⟩
  cases ht : tget T t with
  | none => trivial
  | some ti =>
    obtain ⟨d, inf, z, h1, h2, h3, rfl⟩ := tinfo_parts (hT t ti ht)
    simp only
    cases hd : dsOf d with
    | strct fs =>
      obtain ⟨ff, rfl, rfl⟩ := dsOf_strct hd
      simp only
      cases hp : placesT T (ff.toList.map fun f => (f.offset, f.type, f.name == "_")) with
      | none => trivial
      | some pl =>
        simp only
        cases hf : fillA T (fun i => pl[i]?) (z.cells.toList.map vA) (parts.toList.map fun q => (q.1, opnd st q.2)) with
        | none => trivial
        | some cs' =>
          obtain ⟨us', k1, k2⟩ := fillA_ok (T := T) (us := z.cells) (AVals_vA _) (by simp) (parts_ok h parts) hf
          refine fin us' ?_ cs' k2
          unfold Program.built
          simp only [h2, h1, h3, placesT_ok hT hp]
          rw [← k1]
          congr 1
          funext i
          simp
    | arr n e =>
      have := dsOf_arr hd
      subst this
      simp only
      cases hte : tget T e with
      | none => trivial
      | some te =>
        obtain ⟨de, infe, ze, q1, q2, q3, rfl⟩ := tinfo_parts (hT e te hte)
        simp only
        cases hf : fillA T (fun i => some (i * infe.size, infe.size)) (z.cells.toList.map vA) (parts.toList.map fun q => (q.1, opnd st q.2)) with
        | none => trivial
        | some cs' =>
          obtain ⟨us', k1, k2⟩ := fillA_ok (T := T) (us := z.cells) (AVals_vA _) (by simp) (parts_ok h parts) hf
          refine fin us' ?_ cs' k2
          unfold Program.built
          simp only [h2, h1, h3, q2]
          exact k1
    | _ => trivial

theorem len_ok (hT : TOk P T) {x : A} {u : Value} {t : Nat} (ty : TypeId) (hx : AVal g w x u) : match lenE T t x with
    | .no => True
    | .val v => (Builtin.len_ #[t] ty #[u]).run P w = .ok v w
    | .nd c v => c → (Builtin.len_ #[t] ty #[u]).run P w = .ok v w := by
  have slCase : ∀ {sz n : Nat} {f : Nat → List D} {e : Nat} {d : TypeDesc}, DVal g.ext w (.sl sz n f) u → P.underlying t = some d → d = .slice e → (Builtin.len_ #[t] ty #[u]).run P w = .ok (.int .i64 n) w := by
    intro sz n f e d hv hd hde
    subst hde
    simp only [DVal] at hv
    obtain ⟨us, hs, _⟩ := hv
    rcases hs.2 with ⟨rfl, rfl⟩ | ⟨b, o', c, rfl, _⟩ <;> simp [Builtin.len_, run_underlying hd, goInt]
  have arrCase : match (match tds T t with
      | some (.arr n _) => BR.val (.int .i64 n)
      | _ => .no) with
      | .no => True
      | .val v => (Builtin.len_ #[t] ty #[u]).run P w = .ok v w
      | .nd c v => c → (Builtin.len_ #[t] ty #[u]).run P w = .ok v w := by
    cases hd : tds T t with
    | none => trivial
    | some ds =>
      cases ds with
      | arr n e =>
        obtain ⟨d, inf, h1, _, h3⟩ := tds_some hT hd
        have := dsOf_arr h3
        subst this
        simp [Builtin.len_, run_underlying h1, goInt]
      | _ => trivial
  suffices key : ∀ r, lenE T t x = r → match r with
      | .no => True
      | .val v => (Builtin.len_ #[t] ty #[u]).run P w = .ok v w
      | .nd c v => c → (Builtin.len_ #[t] ty #[u]).run P w = .ok v w from key _ rfl
  intro r hr
  cases x with
  | p d =>
    cases d with
    | v vx =>
      have e := AVal_pv.1 hx
      subst e
      cases u with
      | string s =>
        simp only [lenE] at hr
        subst hr
        cases hd : tds T t with
        | none => trivial
        | some ds =>
          cases ds with
          | str =>
            obtain ⟨d, inf, h1, _, h3⟩ := tds_some hT hd
            have := dsOf_str h3
            subst this
            simp [Builtin.len_, run_underlying h1, goInt]
          | _ => trivial
      | slice ad len cap =>
        cases ad with
        | some q => simp only [lenE] at hr; subst hr; exact arrCase
        | none =>
          cases len with
          | succ _ => simp only [lenE] at hr; subst hr; exact arrCase
          | zero =>
            cases cap with
            | succ _ => simp only [lenE] at hr; subst hr; exact arrCase
            | zero =>
              simp only [lenE] at hr
              subst hr
              cases hd : tds T t with
              | none => trivial
              | some ds =>
                cases ds with
                | slice e =>
                  obtain ⟨d, inf, h1, _, h3⟩ := tds_some hT hd
                  have := dsOf_slice h3
                  subst this
                  simp [Builtin.len_, run_underlying h1, goInt]
                | _ => trivial
      | _ => simp only [lenE] at hr; subst hr; exact arrCase
    | sl sz n f =>
      simp only [lenE] at hr
      subst hr
      cases hd : tds T t with
      | none => trivial
      | some ds =>
        cases ds with
        | slice e =>
          obtain ⟨d, inf, h1, _, h3⟩ := tds_some hT hd
          exact slCase (by simpa only [AVal] using hx) h1 (dsOf_slice h3)
        | _ => trivial
  | own q e sz n f =>
    simp only [lenE] at hr
    subst hr
    cases hd : tds T t with
    | none => trivial
    | some ds =>
      cases ds with
      | slice e =>
        obtain ⟨d, inf, h1, _, h3⟩ := tds_some hT hd
        simp only [AVal] at hx
        exact slCase hx.2.1 h1 (dsOf_slice h3)
      | _ => trivial
  | _ => simp only [lenE] at hr; subst hr; exact arrCase

theorem foldI_ok {m2 : Value → Value → Sem Value} {hh : Int → Int → Int} (hm : ∀ k x y w, (m2 (.int k x) (.int k y)).run P w = .ok (.int k (hh x y)) w) {k : IntKind} : ∀ {l : List A} {us : List Value} {b r : Int}, AVals g w l us → foldI k hh b l = some r → (us.foldlM m2 (.int k b)).run P w = .ok (.int k r) w
  | [], us, b, r, h, hf => by
    simp only [AVals] at h
    subst h
    simp only [foldI, Option.some.injEq] at hf
    subst hf
    simp
  | x :: l, us, b, r, h, hf => by
    simp only [AVals] at h
    obtain ⟨u, us', rfl, h1, h2⟩ := h
    cases x with
    | p d =>
      cases d with
      | v vx =>
        have := AVal_pv.1 h1
        subst this
        cases u with
        | int k' bb =>
          simp only [foldI] at hf
          cases hk : kEq k k' with
          | false => simp [hk] at hf
          | true =>
            have := kEq_eq hk
            subst this
            rw [hk] at hf
            simp only [List.foldlM_cons, Sem.run_bind, hm, Result.andThen_ok]
            exact foldI_ok hm h2 hf
        | _ => simp [foldI] at hf
      | sl _ _ _ => simp [foldI] at hf
    | _ => simp [foldI] at hf

theorem call_ok (hT : TOk P T) (h : Rel W0 g0 g st a w) {c : Call} (ho : o.op = .call c) : EfOk P g st a w o (ev T st (.call c)) := by
  simp only [ev, callE]
  have hargs := opnds_ok h c.args.toList
  have hmap : (c.args.map a.eval).toList = c.args.toList.map a.eval := by simp
  cases hc : c.callee with
  | value f =>
    simp only
    have hf := opnd_ok h f
    cases hq : opnd st f with
    | fn gg caps =>
      rw [hq] at hf
      simp only [AVal] at hf
      obtain ⟨us, hv, hus⟩ := hf
      refine ⟨c.args.map a.eval ++ us, ?_, ?_⟩
      · unfold execOp
        rw [ho]
        simp [resolve, hc, Deferred.ofValue, hv, invoke]
      · rw [Array.toList_append, hmap]
        exact hargs.append hus
    | _ => trivial
  | invoke r m => trivial
  | builtin b =>
    simp only
    obtain ⟨cs, e⟩ := exec_builtin (a := a) ho hc
    have minmax : ∀ (hh : Int → Int → Int) (m2 : Value → Value → Sem Value) (mm : Array TypeId → TypeId → Array Value → Sem Value), (∀ k x y w, (m2 (.int k x) (.int k y)).run P w = .ok (.int k (hh x y)) w) → (∀ x y v, mm x y v = match v.toList with | [] => stuck "" | x :: rest => rest.foldlM m2 x) ∨ (∀ x y v q r, v.toList = q :: r → mm x y v = r.foldlM m2 q) →
        (execOp a.eval o = (do pure (.value (← mm c.argTypes o.type (c.args.map a.eval))))) → EfOk P g st a w o (minmaxE hh (opnds st c.args.toList)).ef := by
      intro hh m2 mm hm hmm he
      apply EfOk.of_br
      generalize hxs : opnds st c.args.toList = xs
      rw [hxs] at hargs
      cases xs with
      | nil => trivial
      | cons x l =>
        cases x with
        | p d =>
          cases d with
          | v vx =>
            cases vx with
            | int k b =>
              simp only [AVals] at hargs
              obtain ⟨u, us', hus, h1, h2⟩ := hargs
              have := AVal_pv.1 h1
              subst this
              simp only [minmaxE]
              cases hf : foldI k hh b l with
              | none => trivial
              | some r =>
                refine exec_v he ?_
                have hl : (c.args.map a.eval).toList = .int k b :: us' := by rw [hmap, hus]
                have : mm c.argTypes o.type (c.args.map a.eval) = us'.foldlM m2 (.int k b) := by
                  rcases hmm with hmm | hmm
                  · rw [hmm, hl]
                  · exact hmm _ _ _ _ _ hl
                rw [this]
                exact foldI_ok hm h2 hf
            | _ => trivial
          | sl _ _ _ => trivial
        | _ => trivial
    split
    · -- len
      rename_i x t hxs hts
      apply EfOk.of_br
      have hl := len_ok (t := t) hT o.type (u := (c.args.toList.map a.eval).headD undef) (x := x) (by
        rw [hxs] at hargs
        simp only [AVals] at hargs
        obtain ⟨u, us', hus, h1, h2⟩ := hargs
        rw [hus]
        exact h1)
      have e2 : execOp a.eval o = (do pure (.value (← Builtin.len_ #[t] o.type #[(c.args.toList.map a.eval).headD undef]))) := by
        rw [hxs] at hargs
        simp only [AVals] at hargs
        obtain ⟨u, us', hus, h1, h2⟩ := hargs
        rw [e]
        have k1 : c.argTypes = #[t] := by cases hh : c.argTypes; rw [hh] at hts; simp at hts; simp [hts]
        have k2 : c.args.map a.eval = #[u] := by
          apply Array.toList_inj.1
          rw [hmap, hus, h2]
        rw [k1, k2, hus]
        rfl
      cases hr : lenE T t x with
      | no => trivial
      | val v =>
        rw [hr] at hl
        exact exec_v e2 hl
      | nd cc v =>
        rw [hr] at hl
        intro hcc
        exact exec_v e2 (hl hcc)
    · exact minmax mxI Builtin.max2 Builtin.max_ (fun k x y w => rfl) (.inr fun x y v q r hv => by simp [Builtin.max_, hv]) (by rw [e]; rfl)
    · exact minmax mnI Builtin.min2 Builtin.min_ (fun k x y w => rfl) (.inr fun x y v q r hv => by simp [Builtin.min_, hv]) (by rw [e]; rfl)
    · -- append
      rename_i s x t t' hxs hts
      have k1 : c.argTypes = #[t, t'] := by cases hh : c.argTypes; rw [hh] at hts; simp at hts; simp [hts]
      cases hal : c.args.toList with
      | nil => rw [hal] at hxs; simp [opnds] at hxs
      | cons s0 l0 =>
        cases l0 with
        | nil => rw [hal] at hxs; simp [opnds] at hxs
        | cons x0 l1 =>
          cases l1 with
          | cons _ _ => rw [hal] at hxs; simp [opnds] at hxs
          | nil =>
            rw [hal] at hxs
            simp only [opnds, List.cons.injEq, and_true] at hxs
            obtain ⟨rfl, rfl⟩ := hxs
            have k2 : c.args = #[s0, x0] := by cases hh : c.args; rw [hh] at hal; simp at hal; simp [hal]
            exact append_ok hT h ho hc k2 k1
    · trivial

theorem zsA_ok (zs : Array Value) : ∀ (m i : Nat), AVals g w (zsA (zs.toList.map vA) (lenA (zs.toList.map vA)) m i) ((List.range' i m).map (zs[· % zs.size]!))
  | 0, i => by simp [zsA, AVals]
  | m + 1, i => by
    simp only [zsA, List.range'_succ, List.map_cons, AVals]
    refine ⟨_, _, rfl, ?_, zsA_ok zs m (i + 1)⟩
    have hl : lenA (zs.toList.map vA) = zs.size := by rw [lenA_eq]; simp
    rw [hl]
    rcases Nat.eq_zero_or_pos zs.size with h0 | h0
    · have : zs = #[] := by apply Array.eq_empty_of_size_eq_zero h0
      subst this
      simp [getA, AVal]
    · have hlt : i % zs.size < zs.size := Nat.mod_lt _ h0
      have e1 := getA_eq (l := zs.toList.map vA) (i := i % zs.size) (by simpa using hlt)
      rw [List.getElem?_map, Array.getElem?_toList, Array.getElem?_eq_getElem hlt] at e1
      simp only [Option.map_some, Option.some.injEq] at e1
      rw [← e1, AVal_vA]
      simp [hlt]

theorem toD_ok {x : A} {u : Value} {y : D} (h : AVal g w x u) (hy : toD x = some y) : DVal g.ext w y u := by
  cases x with
  | p d =>
    simp only [toD, Option.some.injEq] at hy
    subst hy
    simpa only [AVal] using h
  | own t e sz n f =>
    simp only [toD, Option.some.injEq] at hy
    subst hy
    simp only [AVal] at h
    exact h.2.1
  | _ => simp [toD] at hy
theorem toDs_ok : ∀ {xs : List A} {us : List Value} {ys : List D}, AVals g w xs us → allOne us → toDs xs = some ys → DCells g.ext w ys us
  | [], us, ys, h, h1, hy => by
    simp only [toDs, Option.some.injEq] at hy
    subst hy
    simp only [AVals] at h
    subst h
    simp [DCells]
  | x :: xs, us, ys, h, h1, hy => by
    simp only [AVals] at h
    obtain ⟨u, us', rfl, k1, k2⟩ := h
    simp only [toDs] at hy
    cases hx : toD x with
    | none => simp [hx] at hy
    | some y =>
      cases hxs : toDs xs with
      | none => simp [hx, hxs] at hy
      | some ys' =>
        simp only [hx, hxs, Option.some.injEq] at hy
        subst hy
        simp only [DCells]
        exact ⟨u, us', rfl, h1 u (by simp), toD_ok k1 hx, toDs_ok k2 (fun v hv => h1 v (by simp [hv])) hxs⟩

theorem DCells_drop {ext : Nat → Nat} : ∀ {xs : List D} {us : List Value} (n : Nat), DCells ext w xs us → DCells ext w (xs.drop n) (us.drop n)
  | xs, us, 0, h => by simpa using h
  | [], us, n + 1, h => by
    simp only [DCells] at h
    subst h
    simp [DCells]
  | x :: xs, us, n + 1, h => by
    simp only [DCells] at h
    obtain ⟨u, us', rfl, _, _, h2⟩ := h
    simpa using DCells_drop n h2
theorem DCells_take {ext : Nat → Nat} : ∀ {xs : List D} {us : List Value} (n : Nat), DCells ext w xs us → DCells ext w (xs.take n) (us.take n)
  | xs, us, 0, h => by simp [DCells]
  | [], us, n + 1, h => by
    simp only [DCells] at h
    subst h
    simp [DCells]
  | x :: xs, us, n + 1, h => by
    simp only [DCells] at h
    obtain ⟨u, us', rfl, h0, h1, h2⟩ := h
    simp only [List.take_succ_cons, DCells]
    exact ⟨u, us'.take n, rfl, h0, h1, DCells_take n h2⟩

theorem fillA_len {place : Nat → Option (Nat × Nat)} : ∀ {parts : List (Nat × A)} {cs cs' : List A}, fillA T place cs parts = some cs' → cs'.length = cs.length
  | [], cs, cs', h => by
    simp only [fillA, Option.some.injEq] at h
    rw [h]
  | (i, x) :: parts, cs, cs', h => by
    simp only [fillA] at h
    split at h
    · cases h
    · split at h
      · rw [fillA_len h, wrA_len]
      · cases h
theorem zsA_len (zs : List A) (l : Nat) : ∀ (m i : Nat), (zsA zs l m i).length = m
  | 0, i => rfl
  | m + 1, i => by simp [zsA, zsA_len zs l m]

theorem toDs_drop : ∀ {cs : List A} {ds : List D} (n : Nat), toDs cs = some ds → toDs (cs.drop n) = some (ds.drop n)
  | cs, ds, 0, h => by simpa using h
  | [], ds, n + 1, h => by
    simp only [toDs, Option.some.injEq] at h
    subst h
    rfl
  | x :: xs, ds, n + 1, h => by
    simp only [toDs] at h
    cases hx : toD x with
    | none => simp [hx] at h
    | some y =>
      cases hxs : toDs xs with
      | none => simp [hx, hxs] at h
      | some ys =>
        simp only [hx, hxs, Option.some.injEq] at h
        subst h
        simpa using toDs_drop n hxs
theorem toDs_take : ∀ {cs : List A} {ds : List D} (n : Nat), toDs cs = some ds → toDs (cs.take n) = some (ds.take n)
  | cs, ds, 0, h => by simp [toDs]
  | [], ds, n + 1, h => by
    simp only [toDs, Option.some.injEq] at h
    subst h
    rfl
  | x :: xs, ds, n + 1, h => by
    simp only [toDs] at h
    cases hx : toD x with
    | none => simp [hx] at h
    | some y =>
      cases hxs : toDs xs with
      | none => simp [hx, hxs] at h
      | some ys =>
        simp only [hx, hxs, Option.some.injEq] at h
        subst h
        simp [toDs, hx, toDs_take n hxs]
theorem colF_eq {cs : List A} {ds : List D} {sz n i : Nat} (hd : toDs cs = some ds) (hl : cs.length = n * sz) (hi : i < n) : colF cs ds sz n i = (ds.drop (i * sz)).take sz := by
  unfold colF
  cases he : elemA cs sz n i sz 0 with
  | none => rfl
  | some l =>
    have hmul : (i + 1) * sz ≤ n * sz := Nat.mul_le_mul_right _ hi
    rw [Nat.add_mul, Nat.one_mul] at hmul
    obtain ⟨g1, g2⟩ := elemA_get hi he
    have : l = (cs.drop (i * sz)).take sz := by
      apply List.ext_getElem?
      intro j
      rcases Nat.lt_or_ge j sz with hj | hj
      · rw [g2 j hj, List.getElem?_take, if_pos hj, List.getElem?_drop, Nat.zero_add]
        exact (getA_eq (by omega)).symm
      · rw [List.getElem?_eq_none (by omega), List.getElem?_take, if_neg (by omega)]
    simp only [this, toDs_take sz (toDs_drop (i * sz) hd)]

theorem buildSlice_ok (hT : TOk P T) (h : Rel W0 g0 g st a w) {t len : Nat} {parts : Array (Nat × Operand)} (ho : o.op = .buildSlice t len parts) : EfOk P g st a w o (ev T st (.buildSlice t len parts)) := by
  have he : execOp a.eval o = (do pure (.value (← Instr.buildSlice t len (parts.map fun (i, x) => (i, a.eval x))))) := by unfold execOp; rw [ho]
  simp only [ev, buildSliceA]
  cases hd : tds T t with
  | none => trivial
  | some ds =>
    cases ds with
    | slice e =>
      obtain ⟨d, inf, h1, _, h3⟩ := tds_some hT hd
      have := dsOf_slice h3
      subst this
      simp only
      cases hte : tget T e with
      | none => trivial
      | some te =>
        obtain ⟨de, ie, z, q1, q2, q3, rfl⟩ := tinfo_parts (hT e te hte)
        simp only
        cases hb : Nat.ble (len * ie.size) 16777216 with
        | false => trivial
        | true =>
          have hsmall : ¬ len * ie.size > 2 ^ 24 := by
            have := Nat.le_of_ble_eq_true hb
            omega
          cases len with
          | zero =>
            simp only
            cases hps : parts.toList.map fun q => (q.1, opnd st q.2) with
            | cons _ _ => trivial
            | nil =>
              have hpe : parts = #[] := by
                have := List.map_eq_nil_iff.1 hps
                exact Array.toList_inj.1 (by simpa using this)
              subst hpe
              intro _
              refine ⟨.slice (some ⟨w.heap.size, 0, none⟩) 0 0, w.alloc (.cells #[] e), [], exec_v he ?_, ?_, fun i hi => by omega, fun b hb1 hb2 => ?_, fun t ht => (by cases ht), rfl, rfl, rfl, by simp, fun k hk _ => heap_alloc_old w _ hk⟩
              · simp [Instr.buildSlice, run_underlying h1, sizeOf, typeInfo, q2, Instr.fill, newRow, show Array.range 0 = #[] from rfl]
              · have := World.ownsRow_lit (e := e) (size := ie.size) w #[] 0 (Nat.zero_le _) (by unfold maxLen; omega) (by simp)
                simpa using this
              · simp only [Value.ownBlock, Option.some.injEq] at hb1
                omega
          | succ m =>
            simp only
            cases hb0 : Nat.ble ie.size 0 with
            | true => trivial
            | false =>
              have hpos : 0 < ie.size := by
                rcases Nat.eq_zero_or_pos ie.size with h0 | h0
                · rw [h0] at hb0
                  cases hb0
                · exact h0
              simp only
              cases hf : fillA T (fun i => some (i * ie.size, ie.size)) (zsA (z.cells.toList.map vA) (lenA (z.cells.toList.map vA)) ((m + 1) * ie.size) 0) (parts.toList.map fun q => (q.1, opnd st q.2)) with
              | none => trivial
              | some cs =>
                simp only
                cases h1s : onesA cs with
                | false => trivial
                | true =>
                cases hds : toDs cs with
                | none => trivial
                | some ds =>
                  simp only
                  have e1 : ((Array.range ((m + 1) * ie.size)).map (z.cells[· % z.cells.size]!)).toList = (List.range' 0 ((m + 1) * ie.size)).map (z.cells[· % z.cells.size]!) := by
                    simp [List.range_eq_range']
                  obtain ⟨us, k1, k2⟩ := fillA_ok (T := T) (us := (Array.range ((m + 1) * ie.size)).map (z.cells[· % z.cells.size]!)) (by rw [e1]; exact zsA_ok z.cells _ 0) (by simp) (parts_ok h parts) hf
                  have hsz : us.size = (m + 1) * ie.size := by
                    have := k2.length
                    rw [fillA_len hf, zsA_len, Array.length_toList] at this
                    exact this
                  have hones : allOne us.toList := onesA_ok h1s k2
                  have hdc := toDs_ok k2 hones hds
                  refine ⟨us, e, exec_v he ?_, hsz, fun i hi => ?_⟩
                  · exact run_buildSlice w t e (m + 1) _ us ie z h1 q2 q3 hsmall (by have : 0 < (m + 1) * ie.size := Nat.mul_pos (Nat.succ_pos m) hpos; omega) k1
                  · have hmul : (i + 1) * ie.size ≤ (m + 1) * ie.size := Nat.mul_le_mul_right _ hi
                    rw [Nat.add_mul, Nat.one_mul] at hmul
                    have hdl := DCells_length hdc
                    rw [Array.length_toList] at hdl
                    have hcl : cs.length = (m + 1) * ie.size := by rw [fillA_len hf, zsA_len]
                    rw [colF_eq hds hcl hi]
                    exact ⟨by simp; omega, DCells_take _ (DCells_drop _ hdc)⟩
    | _ => trivial

theorem intA_ok {x : Option Operand} {k : Option Int} (h : Rel W0 g0 g st a w) (hk : intA (x.map (opnd st)) = some k) : (x = none ∧ k = none) ∨ ∃ y kk n, x = some y ∧ k = some n ∧ a.eval y = .int kk n := by
  cases x with
  | none =>
    simp only [Option.map_none, intA, Option.some.injEq] at hk
    exact .inl ⟨rfl, hk.symm⟩
  | some y =>
    right
    have hy := opnd_ok h y
    simp only [Option.map_some] at hk
    cases hq : opnd st y with
    | p d =>
      cases d with
      | v vv =>
        cases vv with
        | int kk n =>
          rw [hq] at hk hy
          simp only [intA, Option.some.injEq] at hk
          exact ⟨y, kk, n, rfl, hk.symm, AVal_pv.1 hy⟩
        | _ => rw [hq] at hk; simp [intA] at hk
      | sl _ _ _ => rw [hq] at hk; simp [intA] at hk
    | _ => rw [hq] at hk; simp [intA] at hk

theorem bounds_ok (h : Rel W0 g0 g st a w) {b : Bool} {len cap : Nat} {lo hi : Option Operand} {l k : Option Int} (hl : intA (lo.map (opnd st)) = some l) (hk : intA (hi.map (opnd st)) = some k) (hlc : len ≤ cap)
    (hc : 0 ≤ l.getD 0 ∧ l.getD 0 ≤ k.getD len ∧ k.getD len ≤ (len : Int)) : (Instr.sliceBounds b len cap (lo.map a.eval) (hi.map a.eval) none).run P w = .ok ((l.getD 0).toNat, (k.getD len).toNat, cap) w := by
  obtain ⟨c1, c2, c3⟩ := hc
  unfold Instr.sliceBounds
  rcases intA_ok h hl with ⟨rfl, rfl⟩ | ⟨y, kk, n, rfl, rfl, ey⟩ <;> rcases intA_ok h hk with ⟨rfl, rfl⟩ | ⟨y', kk', n', rfl, rfl, ey'⟩
  · simp
  · simp only [Option.getD_some, Option.getD_none] at c1 c2 c3
    have h1 : (0 : Int) ≤ n' ∧ n' ≤ (cap : Int) := by omega
    cases b <;> simp [Instr.sliceBound, ey', asIntOf, h1]
  · simp only [Option.getD_some, Option.getD_none] at c1 c2 c3
    simp [Instr.sliceBound, ey, asIntOf, c1, c2]
  · simp only [Option.getD_some, Option.getD_none] at c1 c2 c3
    have h1 : (0 : Int) ≤ n' ∧ n' ≤ (cap : Int) := by omega
    have h2 : n ≤ max n' 0 := by omega
    cases b <;> simp [Instr.sliceBound, ey, ey', asIntOf, h1, c1, c2, h2]

theorem slice_ok (hT : TOk P T) (h : Rel W0 g0 g st a w) {t : Nat} {x : Operand} {lo hi mx : Option Operand} (ho : o.op = .slice t x lo hi mx) : EfOk P g st a w o (ev T st (.slice t x lo hi mx)) := by
  have he : execOp a.eval o = (do pure (.value (← Instr.sliceAt t (a.eval x) (lo.map a.eval) (hi.map a.eval) (mx.map a.eval)))) := by unfold execOp; rw [ho]
  have hx := opnd_ok h x
  simp only [ev, sliceA]
  cases mx with
  | some m => simp only [Option.map_some]; trivial
  | none =>
    simp only [Option.map_none]
    cases hl : intA (lo.map (opnd st)) with
    | none => trivial
    | some l =>
      cases hk : intA (hi.map (opnd st)) with
      | none => trivial
      | some k =>
        simp only
        cases hd : tds T t with
        | none => trivial
        | some ds =>
          cases ds with
          | str =>
            obtain ⟨d, inft, h1, _, h3⟩ := tds_some hT hd
            have := dsOf_str h3
            subst this
            simp only
            cases hq : opnd st x with
            | p dx =>
              rw [hq] at hx
              cases dx with
              | v vx =>
                have ex : a.eval x = vx := AVal_pv.1 hx
                cases vx with
                | string s =>
                  intro hc
                  refine ⟨_, exec_v he ?_, AVal_vA.2 rfl⟩
                  simp only [Instr.sliceAt, Instr.slice, Sem.run_bind, run_underlying h1, Result.andThen_ok, ex, Option.map_none, Option.isSome_none, Bool.false_eq_true, if_false, bounds_ok h hl hk (Nat.le_refl _) hc, Sem.run_pure]
                | _ => trivial
              | sl _ _ _ => trivial
            | _ => trivial
          | slice e =>
            obtain ⟨d, inft, h1, _, h3⟩ := tds_some hT hd
            have := dsOf_slice h3
            subst this
            simp only
            cases hte : tget T e with
            | none => trivial
            | some te =>
              obtain ⟨de, ie, z, q1, q2, q3, rfl⟩ := tinfo_parts (hT e te hte)
              simp only
              have key : ∀ {sz n : Nat} {f : Nat → List D}, DVal g.ext w (.sl sz n f) (a.eval x) → Nat.beq sz ie.size = true → EfOk P g st a w o (.valn (0 ≤ l.getD 0 ∧ l.getD 0 ≤ k.getD n ∧ k.getD n ≤ (n : Int)) (.p (.sl sz ((k.getD n).toNat - (l.getD 0).toNat) (fun i => f ((l.getD 0).toNat + i))))) := by
                intro sz n f hv hbq hc
                have hsz := Nat.eq_of_beq_eq_true hbq
                subst hsz
                simp only [DVal] at hv
                obtain ⟨us, ⟨hul, hs⟩, hf⟩ := hv
                generalize hL : (l.getD 0).toNat = L
                generalize hK : (k.getD n).toNat = K
                have hLK : L ≤ K := by omega
                have hKn : K ≤ n := by omega
                have hm1 : K * ie.size ≤ n * ie.size := Nat.mul_le_mul_right _ hKn
                have hm2 : L * ie.size ≤ K * ie.size := Nat.mul_le_mul_right _ hLK
                have hm3 : (K - L) * ie.size = K * ie.size - L * ie.size := Nat.sub_mul ..
                rcases hs with ⟨hu, rfl⟩ | ⟨b, o', c, hu, hnc, hext, hcell⟩
                · have b1 := bounds_ok (P := P) (b := true) (cap := 0) h hl hk (Nat.le_refl _) hc
                  rw [hL, hK] at b1
                  refine ⟨.slice none 0 0, exec_v he ?_, ?_⟩
                  · have : L = 0 ∧ K = 0 := by omega
                    obtain ⟨rfl, rfl⟩ := this
                    simp only [Instr.sliceAt, Instr.slice, Sem.run_bind, run_underlying h1, Result.andThen_ok, hu, Option.map_none, b1, run_sizeOf' (w := w) q2, Sem.run_pure]
                    rfl
                  · simp only [AVal, DVal]
                    have : K - L = 0 := by omega
                    rw [this]
                    exact ⟨[], ⟨by simp, .inl ⟨rfl, rfl⟩⟩, fun i hi => by omega⟩
                · have b1 := bounds_ok (P := P) (b := true) (cap := c) h hl hk hnc hc
                  rw [hL, hK] at b1
                  have hcells : ∀ i, i < K - L → (f (L + i)).length = ie.size ∧ DCells g.ext w (f (L + i)) ((((us.drop (L * ie.size)).take ((K - L) * ie.size)).drop (i * ie.size)).take ie.size) := by
                    intro i hi
                    obtain ⟨r1, r2⟩ := hf (L + i) (by omega)
                    refine ⟨r1, ?_⟩
                    have hm4 : (i + 1) * ie.size ≤ (K - L) * ie.size := Nat.mul_le_mul_right _ hi
                    rw [Nat.add_mul, Nat.one_mul] at hm4
                    rw [List.drop_take, List.take_take, Nat.min_eq_left (by omega), List.drop_drop, ← Nat.add_mul]
                    exact r2
                  by_cases hcl : c = L
                  · refine ⟨.slice (some ⟨b, o', none⟩) (K - L) (c - L), exec_v he ?_, ?_⟩
                    · simp only [Instr.sliceAt, Instr.slice, Sem.run_bind, run_underlying h1, Result.andThen_ok, hu, Option.map_none, b1, run_sizeOf' (w := w) q2, Sem.run_pure, if_pos hcl]
                    · simp only [AVal, DVal]
                      have e0 : K - L = 0 := by omega
                      rw [e0]
                      refine ⟨[], ⟨by simp, .inr ⟨b, o', c - L, rfl, Nat.zero_le _, by omega, fun i x hx => by simp at hx⟩⟩, fun i hi => by omega⟩
                  · refine ⟨.slice (some ⟨b, o' + L * ie.size, none⟩) (K - L) (c - L), exec_v he ?_, ?_⟩
                    · have e2 : (⟨b, o', none⟩ : Addr).add (L * ie.size) = ⟨b, o' + L * ie.size, none⟩ := Addr.add_lit ..
                      simp only [Instr.sliceAt, Instr.slice, Sem.run_bind, run_underlying h1, Result.andThen_ok, hu, Option.map_none, b1, run_sizeOf' (w := w) q2, Sem.run_pure, if_neg hcl, Option.map_some, e2]
                    · simp only [AVal, DVal]
                      refine ⟨(us.drop (L * ie.size)).take ((K - L) * ie.size), ⟨by simp; omega, .inr ⟨b, o' + L * ie.size, c - L, rfl, by omega, by omega, fun i x hx => ?_⟩⟩, hcells⟩
                      rw [List.getElem?_take] at hx
                      split at hx
                      · rw [List.getElem?_drop] at hx
                        rw [Nat.add_assoc]
                        exact hcell _ _ hx
                      · cases hx
              cases hq : opnd st x with
              | p dx =>
                rw [hq] at hx
                cases dx with
                | v vx => trivial
                | sl sz n f =>
                  simp only
                  cases hbq : Nat.beq sz ie.size with
                  | false => trivial
                  | true =>
                    simp only [AVal] at hx
                    exact key hx hbq
              | own t' e' sz n f =>
                rw [hq] at hx
                simp only
                cases hbq : Nat.beq sz ie.size with
                | false => trivial
                | true =>
                  simp only [AVal] at hx
                  exact key hx.2.1 hbq
              | _ => trivial
          | _ => trivial

/-- Each operation. -/
theorem ev_ok (hT : TOk P T) (h : Rel W0 g0 g st a w) : EfOk P g st a w o (ev T st o.op) := by
  cases ho : o.op with
  | move x => exact move_ok h (.inl ho)
  | assign x => exact move_ok h (.inr ho)
  | pick c x y => exact pick_ok h ho
  | alloc t => exact alloc_ok hT h ho
  | box t x => exact box_ok h ho
  | build t parts => exact build_ok hT h ho
  | buildSlice t len parts => exact buildSlice_ok hT h ho
  | slice t x l k m => exact slice_ok hT h ho
  | load t x => exact load_ok hT h ho
  | store t x y => exact store_ok hT h ho
  | nilCheck x => exact nilCheck_ok h ho
  | binOp op t x y t' => exact bin_ok hT h ho
  | unOp op t x => exact un_ok h ho
  | convert s d x => exact conv_ok hT h ho
  | fieldAddr s x f => exact fieldAddr_ok hT h ho
  | field s x f => exact field_ok hT h ho
  | indexAddr t x i => exact indexAddr_ok hT h ho
  | index t x i => exact index_ok hT h ho
  | extract x i => exact extract_ok h ho
  | call c => exact call_ok hT h ho
  | _ => trivial
end
end Go.Proofs.YtijakklhklcjhaaA
