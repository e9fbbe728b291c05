/- Operations in whatever order: what they read and write tells that they come to the same. -/
import Derived.Test.YtijakklhklcjhaaAb16
namespace Go.Proofs.YtijakklhklcjhaaA
open Go Go.RowKit
set_option linter.unusedVariables false
set_option linter.unusedSimpArgs false

section
variable {P : Program} {T : TT} {cuts : List Nat}

/-- Is an operation wanted, as far as the state knows? -/
def gval (all : List Oper) (o : Oper) (st : St) : Option Bool := match o.guard with
  | none => some true
  | some (j, want) => match dstAt all j with
    | none => none
    | some d => match st.get d with
      | .p (.v (.bool b)) => some (b == want)
      | .p (.v (.tuple _)) => some false
      | _ => none

theorem get_lt {st : St} {d : Nat} {x : A} (h : st.get d = x) (hx : x ≠ .dead) : d < st.n := by
  rcases Nat.lt_or_ge d st.n with hl | hl
  · exact hl
  · exfalso
    apply hx
    rw [← h]
    simp only [St.get]
    have e : Nat.blt d st.n = false := by
      cases hb : Nat.blt d st.n with
      | false => rfl
      | true =>
        have := (by simpa [Nat.blt_eq] using hb : d < st.n)
        omega
    rw [e]

theorem wanted_of {W0 : World} {g0 g : Gh} {st : St} {a : Act} {w : World} {ops : Array Oper} {o : Oper} {c : Bool} (h : Rel W0 g0 g st a w) (hv : gval ops.toList o st = some c) : Region.wanted o (yielded ops a.tmps) = c := by
  unfold gval at hv
  cases hgd : o.guard with
  | none =>
    rw [hgd] at hv
    cases hv
    simp [Region.wanted, hgd]
  | some q =>
    obtain ⟨j, want⟩ := q
    rw [hgd] at hv
    simp only at hv
    cases hd : dstAt ops.toList j with
    | none => rw [hd] at hv; cases hv
    | some d =>
      rw [hd] at hv
      simp only at hv
      rw [dstAt_eq, Array.getElem?_toList] at hd
      cases hgt : st.get d with
      | p dd =>
        cases dd with
        | v vv =>
          cases vv with
          | bool b =>
            rw [hgt] at hv
            simp only [Option.some.injEq] at hv
            have hdn : d < st.n := get_lt hgt (by simp)
            have htm : a.tmps[d]? = some (.bool b) := by
              have hlt : d < a.tmps.size := by rw [h.size]; exact hdn
              have e := Array.getElem?_eq_getElem hlt
              have := h.slot d _ e
              rw [hgt] at this
              rw [e, AVal_pv.1 this]
            have hy : yielded ops a.tmps j = some b := by
              simp only [yielded, hd, Option.bind_some, htm]
            simp only [Region.wanted, hgd, hy]
            rw [← hv]
            cases b <;> cases want <;> rfl
          | tuple vs =>
            rw [hgt] at hv
            simp only [Option.some.injEq] at hv
            have hdn : d < st.n := get_lt hgt (by simp)
            have htm : a.tmps[d]? = some (.tuple vs) := by
              have hlt : d < a.tmps.size := by rw [h.size]; exact hdn
              have e := Array.getElem?_eq_getElem hlt
              have := h.slot d _ e
              rw [hgt] at this
              rw [e, AVal_pv.1 this]
            have hy : yielded ops a.tmps j = none := by
              simp only [yielded, hd, Option.bind_some, htm]
            simp only [Region.wanted, hgd, hy]
            rw [← hv]
            cases want <;> rfl
          | _ => rw [hgt] at hv; cases hv
        | sl _ _ _ => rw [hgt] at hv; cases hv
      | _ => rw [hgt] at hv; cases hv

def Does (P : Program) (T : TT) (cuts : List Nat) (all : List Oper) (o : Oper) (st st' : St) : Prop :=
  (gval all o st = some true ∧ Sat P T cuts (stepE T st o (fun x => .goal (x = st')))) ∨ (gval all o st = some false ∧ st' = st.put o.dst undA)

structure Loc (P : Program) (T : TT) (cuts : List Nat) (all : List Oper) (o : Oper) (rw : Rw) (s s' : St) : Prop where
  n : s'.n = s.n
  n0 : s'.n0 = s.n0
  frame : ∀ r, r ∉ rw.2 → agr s' s r
  go : ∀ st, st.n = s.n → st.n0 = s.n0 → (∀ r ∈ rw.1, agr st s r) → ∃ st', st'.n = s.n ∧ st'.n0 = s.n0 ∧ (∀ r, r ∉ rw.2 → agr st' st r) ∧ (∀ r ∈ rw.2, agr st' s' r) ∧ Does P T cuts all o st st'

theorem Sat.goal_inv' {c : Prop} (h : Sat P T cuts (.goal c)) : c := by cases h; assumption

theorem Does.run (hT : TOk P T) {ops : Array Oper} {o : Oper} {i : Nat} {st st' : St} (hd : Does P T cuts ops.toList o st st') (hi : ops[i]? = some o) {W0 : World} {g0 g : Gh} {a : Act} {w : World} (h : Rel W0 g0 g st a w)
    {K : Act → World → Prop} {Q : Exit → Act → World → Prop} (hK : ∀ g' a' w', Rel W0 g0 g' st' a' w' → K a' w') : wpOp P ops Q i K a w := by
  unfold wpOp
  rw [hi]
  simp only
  rcases hd with ⟨h1, h2⟩ | ⟨h1, h2⟩
  · rw [wanted_of h h1]
    refine .inl (stepE_sound hT h h2 fun g' s2 a' w' r s => ?_)
    have := s.goal_inv'
    subst this
    exact hK _ _ _ r
  · rw [wanted_of h h1]
    subst h2
    exact hK _ _ _ (h.put o.dst (by simp [undA, AVal, DVal, undef]))

theorem put_same {s : St} {d : Nat} {x : A} (h : s.get d = x) (r : Rz) : agr (s.put (some d) x) s r := by
  cases r with
  | slot i =>
    show (s.put (some d) x).get i = s.get i
    rw [put_get]
    split
    · rename_i hc
      obtain ⟨h1, _⟩ := hc
      cases h1
      exact h.symm
    · rfl
  | _ => rfl

theorem Loc.pre {all : List Oper} {o : Oper} {rw : Rw} {s0 s s' : St} (h : Loc P T cuts all o rw s s') (hn : s.n = s0.n) (hn0 : s.n0 = s0.n0) (ha : ∀ r, agr s s0 r) : Loc P T cuts all o rw s0 s' :=
  ⟨h.n.trans hn, h.n0.trans hn0, fun r hr => (h.frame r hr).trans (ha r), fun st h1 h2 h3 => by
    obtain ⟨st', k1, k2, k3⟩ := h.go st (h1.trans hn.symm) (h2.trans hn0.symm) fun r hr => (h3 r hr).trans (ha r).symm
    exact ⟨st', k1.trans hn, k2.trans hn0, k3⟩⟩

/-- A run of operations in the order of the text. -/
def Tr (P : Program) (T : TT) (cuts : List Nat) (all : List Oper) : List Oper → St → List Rw → St → Prop
  | [], s, [], s' => s' = s
  | o :: l, s, r :: rs, s' => ∃ s1, Loc P T cuts all o r s s1 ∧ Tr P T cuts all l s1 rs s'
  | _, _, _, _ => False

theorem Loc.run {all : List Oper} {o : Oper} {s s' : St} {wr : List Rz} (h : LocE P T cuts o wr s s') (hg : ∀ st, (∀ r ∈ guardZ all o, agr st s r) → gval all o st = some true) : Loc P T cuts all o (rdZ all s o, wr) s s' := by
  refine ⟨h.n, h.n0, h.frame, fun st h1 h2 h3 => ?_⟩
  simp only [rdZ, List.mem_append] at h3
  obtain ⟨st', k1, k2, k3, k4, k5⟩ := h.go st h1 h2 (fun r hr => h3 r (.inr (.inl hr))) (fun r hr => h3 r (.inr (.inr hr)))
  exact ⟨st', k1, k2, k3, k4, .inl ⟨hg st fun r hr => h3 r (.inl hr), k5⟩⟩

theorem Loc.skip {all : List Oper} {o : Oper} {s : St} (hg : ∀ st, (∀ r ∈ guardZ all o, agr st s r) → gval all o st = some false) : Loc P T cuts all o (guardZ all o, dstZ o.dst) s (s.put o.dst undA) :=
  ⟨put_n _ _ _, put_n0 _ _ _, fun r hr => put_off hr, fun st h1 h2 h3 => ⟨st.put o.dst undA, (put_n _ _ _).trans h1, (put_n0 _ _ _).trans h2, fun r hr => put_off hr, fun r hr => put_on h1 hr, .inr ⟨hg st h3, rfl⟩⟩⟩

theorem execD_tr {all : List Oper} : ∀ (l : List Oper) (s : St) (k : List Rw → St → Rs), Sat P T cuts (execD T all l s k) → ∃ rs s', Tr P T cuts all l s rs s' ∧ Sat P T cuts (k rs s')
  | [], s, k, h => ⟨[], s, rfl, h⟩
  | o :: l, s, k, h => by
    have hrun : ∀ s1, (∀ st, (∀ r ∈ guardZ all o, agr st s1 r) → gval all o st = some true) → Sat P T cuts (runD T all o (fun rw st' => execD T all l st' (fun l => k (rw :: l))) s1) → ∃ rs s', Tr P T cuts all (o :: l) s1 rs s' ∧ Sat P T cuts (k rs s') := by
      intro s1 hg hs
      simp only [runD, rzK_eq (l := rdZ _ _ _)] at hs
      obtain ⟨s2, hl, hs2⟩ := stepG_loc hs
      rcases hs2 with hs2 | ⟨⟨f, xs, hf⟩, hs2⟩
      · rw [rzK_eq] at hs2
        obtain ⟨rs, s', h1, h2⟩ := execD_tr l s2 _ hs2
        exact ⟨_ :: rs, s', ⟨s2, Loc.run hl hg, h1⟩, h2⟩
      · obtain ⟨rs, s', h1, h2⟩ := execD_tr l s2 _ hs2
        refine ⟨_ :: rs, s', ⟨s2, ?_, h1⟩, h2⟩
        rw [hf] at hl
        exact Loc.run hl hg
    have hskip : ∀ s1, (∀ st, (∀ r ∈ guardZ all o, agr st s1 r) → gval all o st = some false) → Sat P T cuts (skipD T all o (fun rw st' => execD T all l st' (fun l => k (rw :: l))) s1) → ∃ rs s', Tr P T cuts all (o :: l) s1 rs s' ∧ Sat P T cuts (k rs s') := by
      intro s1 hg hs
      simp only [skipD] at hs
      rw [putK_eq] at hs
      obtain ⟨rs, s', h1, h2⟩ := execD_tr l _ _ hs
      exact ⟨_ :: rs, s', ⟨_, Loc.skip hg, h1⟩, h2⟩
    simp only [execD, stepD] at h
    cases hgd : o.guard with
    | none =>
      rw [hgd] at h
      exact hrun s (fun st _ => by simp [gval, hgd]) h
    | some q =>
      obtain ⟨j, want⟩ := q
      rw [hgd] at h
      simp only at h
      cases hd : dstAt all j with
      | none => rw [hd] at h; cases h
      | some d =>
        rw [hd] at h
        simp only at h
        cases hgt : s.get d with
        | p dd =>
          cases dd with
          | v vv =>
            cases vv with
            | bool b =>
              rw [hgt] at h
              simp only [putK_eq (d := some d)] at h
              have hz : guardZ all o = [.slot d] := by simp [guardZ, hgd, hd, dstZ]
              have hb : ∀ c, b = c → ∃ rs s', Tr P T cuts all (o :: l) (s.put (some d) (vA (.bool c))) rs s' ∧ Sat P T cuts (k rs s') := by
                intro c hc
                have hgv : ∀ cc, (c == want) = cc → ∀ st, (∀ r ∈ guardZ all o, agr st (s.put (some d) (vA (.bool c))) r) → gval all o st = some cc := by
                  intro cc hcc st hst
                  have h1 : st.get d = (s.put (some d) (vA (.bool c))).get d := hst (.slot d) (by rw [hz]; simp)
                  rw [put_get, if_pos ⟨rfl, get_lt hgt (by simp)⟩] at h1
                  simp only [gval, hgd, hd, h1, vA, hcc]
                cases h with
                | split h1 h2 =>
                  cases c with
                  | true =>
                    have h1 := h1 hc
                    cases hw : want with
                    | true => rw [hw] at h1 hgv; exact hrun _ (hgv true rfl) h1
                    | false => rw [hw] at h1 hgv; exact hskip _ (hgv false rfl) h1
                  | false =>
                    have h2 := h2 hc
                    cases hw : want with
                    | true => rw [hw] at h2 hgv; exact hskip _ (hgv false rfl) h2
                    | false => rw [hw] at h2 hgv; exact hrun _ (hgv true rfl) h2
              obtain ⟨rs, s', h1, h2⟩ := hb b rfl
              refine ⟨rs, s', ?_, h2⟩
              cases rs with
              | nil => exact h1.elim
              | cons r rs =>
                obtain ⟨s1, h3, h4⟩ := h1
                exact ⟨s1, h3.pre (put_n _ _ _) (put_n0 _ _ _) fun r => put_same hgt r, h4⟩
            | tuple vs =>
              rw [hgt] at h
              simp only at h
              have hz : guardZ all o = [.slot d] := by simp [guardZ, hgd, hd, dstZ]
              refine hskip s (fun st hst => ?_) h
              have h1 : st.get d = s.get d := hst (.slot d) (by rw [hz]; simp)
              simp only [gval, hgd, hd, h1, hgt]
            | _ => rw [hgt] at h; cases h
          | sl _ _ _ => rw [hgt] at h; cases h
        | _ => rw [hgt] at h; cases h

theorem Tr.fn {all : List Oper} : ∀ {l : List Oper} {s : St} {rs : List Rw} {s' : St}, Tr P T cuts all l s rs s' → ∃ S : Nat → St, S 0 = s ∧ S l.length = s' ∧ rs.length = l.length ∧ ∀ (i : Nat) (o : Oper) (r : Rw), l[i]? = some o → rs[i]? = some r → Loc P T cuts all o r (S i) (S (i + 1))
  | [], s, [], s', h => ⟨fun _ => s, rfl, h.symm, rfl, fun i o r h => by simp at h⟩
  | [], s, _ :: _, s', h => h.elim
  | o :: l, s, [], s', h => h.elim
  | o :: l, s, r :: rs, s', h => by
    obtain ⟨s1, h1, h2⟩ := h
    obtain ⟨S, k1, k2, k3, k4⟩ := Tr.fn h2
    refine ⟨fun | 0 => s | i + 1 => S i, rfl, k2, by simp [k3], ?_⟩
    intro i o' r' hi hr
    cases i with
    | zero =>
      simp only [List.getElem?_cons_zero, Option.some.injEq] at hi hr
      subst hi hr
      show Loc P T cuts all o r s (S 0)
      rw [k1]
      exact h1
    | succ i =>
      simp only [List.getElem?_cons_succ] at hi hr
      exact k4 i o' r' hi hr

/-! ### what the check of the order says -/
theorem eqb_refl (r : Rz) : Rz.eqb r r = true := by cases r <;> simp [Rz.eqb]
theorem memZz_of : ∀ {l : List Rz} {r : Rz}, r ∈ l → memZz r l = true
  | x :: l, r, h => by
    simp only [memZz]
    cases he : Rz.eqb r x with
    | true => rfl
    | false =>
      rcases List.mem_cons.1 h with h | h
      · subst h
        rw [eqb_refl] at he
        cases he
      · exact memZz_of h
theorem meetZ_no : ∀ {l l' : List Rz}, meetZ l l' = false → ∀ r ∈ l, r ∉ l'
  | x :: l, l', h, r, hr, hr' => by
    simp only [meetZ] at h
    cases he : memZz x l' with
    | true => rw [he] at h; cases h
    | false =>
      rw [he] at h
      rcases List.mem_cons.1 hr with hx | hx
      · subst hx
        rw [memZz_of hr'] at he
        cases he
      · exact meetZ_no h r hx hr'
theorem clash_no {a b : Rw} (h : clash a b = false) : (∀ r ∈ a.2, r ∉ b.1) ∧ (∀ r ∈ a.2, r ∉ b.2) ∧ ∀ r ∈ a.1, r ∉ b.2 := by
  simp only [clash, Bool.or_eq_false_iff] at h
  exact ⟨meetZ_no h.1, meetZ_no h.2.1, meetZ_no h.2.2⟩

theorem bindsE_eq (e : Edge) : bindsE e = Region.binds .any e := by
  unfold bindsE Region.binds
  cases e.ground <;> rfl

theorem backE_ok {j : Nat} : ∀ {l : List Edge}, backE j l = true → ∀ e ∈ l, bindsE e = true → e.on < j
  | x :: l, h, e, he, hb => by
    simp only [backE] at h
    cases hx : bindsE x with
    | true =>
      rw [hx] at h
      simp only at h
      cases hlt : Nat.blt x.on j with
      | true =>
        rw [hlt] at h
        rcases List.mem_cons.1 he with he | he
        · subst he
          simpa [Nat.blt_eq] using hlt
        · exact backE_ok h e he hb
      | false => rw [hlt] at h; cases h
    | false =>
      rw [hx] at h
      rcases List.mem_cons.1 he with he | he
      · subst he
        rw [hx] at hb
        cases hb
      · exact backE_ok h e he hb

theorem befE_ok {acc : List Nat} {j : Nat} : ∀ {l : List Edge} {s : Nat}, (befE acc l s).testBit j = true → s.testBit j = true ∨ ∃ e ∈ l, bindsE e = true ∧ (j = e.on ∨ (acc.getD e.on 0).testBit j = true)
  | [], s, h => .inl h
  | x :: l, s, h => by
    simp only [befE] at h
    cases hx : bindsE x with
    | true =>
      rw [hx] at h
      rcases befE_ok h with h | ⟨e, h1, h2⟩
      · rw [Nat.testBit_or, Nat.testBit_or, Bool.or_eq_true, Bool.or_eq_true, Nat.testBit_two_pow] at h
        rcases h with (h | h) | h
        · exact .inl h
        · exact .inr ⟨x, by simp, hx, .inl (by simpa using (of_decide_eq_true h).symm)⟩
        · exact .inr ⟨x, by simp, hx, .inr h⟩
      · exact .inr ⟨e, by simp [h1], h2⟩
    | false =>
      rw [hx] at h
      rcases befE_ok h with h | ⟨e, h1, h2⟩
      · exact .inl h
      · exact .inr ⟨e, by simp [h1], h2⟩

theorem aheadOk_ok {b : Nat} {r : Rw} : ∀ {l : List Rw} {k : Nat}, aheadOk b r l k = true → ∀ (j : Nat) (q : Rw), l[j]? = some q → clash q r = true → b.testBit (k + j) = true
  | x :: l, k, h, j, q, hj, hc => by
    simp only [aheadOk] at h
    cases j with
    | zero =>
      simp only [List.getElem?_cons_zero, Option.some.injEq] at hj
      subst hj
      rw [hc] at h
      cases ht : b.testBit k with
      | true => simp [ht]
      | false => rw [ht] at h; cases h
    | succ j =>
      simp only [List.getElem?_cons_succ] at hj
      have h2 : aheadOk b r l (k + 1) = true := by
        cases hx : clash x r with
        | true =>
          rw [hx] at h
          simp only at h
          cases ht : b.testBit k with
          | true => rw [ht] at h; exact h
          | false => rw [ht] at h; cases h
        | false => rw [hx] at h; exact h
      have := aheadOk_ok h2 j q hj hc
      rwa [show k + (j + 1) = k + 1 + j by omega]
  | [], k, h, j, q, hj, hc => by simp at hj

theorem drawOk_ok : ∀ {l : List Oper} {rs done : List Rw} {acc : List Nat}, drawOk l rs done acc = true → ∃ bs : List Nat, bs.length = l.length ∧ ∀ (i : Nat) (o : Oper) (r : Rw), l[i]? = some o → rs[i]? = some r →
      ∃ b, bs[i]? = some b ∧ backE (acc.length + i) o.after.toList = true ∧ aheadOk b r (done ++ rs.take i) 0 = true ∧ b = befE (acc ++ bs.take i) o.after.toList 0
  | [], [], done, acc, h => ⟨[], rfl, fun i o r h => by simp at h⟩
  | [], _ :: _, done, acc, h => by simp [drawOk] at h
  | _ :: _, [], done, acc, h => by simp [drawOk] at h
  | o :: l, r :: rs, done, acc, h => by
    simp only [drawOk, natB_eq, snocL_eq] at h
    cases h1 : backE acc.length o.after.toList with
    | false => rw [h1] at h; cases h
    | true =>
      cases h2 : aheadOk (befE acc o.after.toList 0) r done 0 with
      | false => rw [h1, h2] at h; cases h
      | true =>
        rw [h1, h2] at h
        obtain ⟨bs, k1, k2⟩ := drawOk_ok h
        refine ⟨befE acc o.after.toList 0 :: bs, by simp [k1], ?_⟩
        intro i o' r' hi hr
        cases i with
        | zero =>
          simp only [List.getElem?_cons_zero, Option.some.injEq] at hi hr
          subst hi hr
          exact ⟨_, rfl, by simpa using h1, by simpa using h2, by simp⟩
        | succ i =>
          simp only [List.getElem?_cons_succ] at hi hr
          obtain ⟨b, e1, e2, e3, e4⟩ := k2 i o' r' hi hr
          refine ⟨b, by simpa using e1, ?_, by simpa [List.append_assoc] using e3, by simpa [List.append_assoc] using e4⟩
          rw [List.length_append, List.length_singleton] at e2
          rwa [show acc.length + (i + 1) = acc.length + 1 + i by omega]
end
end Go.Proofs.YtijakklhklcjhaaA
