/- What an operation reads and writes; operations that read the same do the same. -/
import Derived.Test.YtijakklhklcjhaaAb15
namespace Go.Proofs.YtijakklhklcjhaaA
open Go Go.RowKit
set_option linter.unusedVariables false
set_option linter.unusedSimpArgs false

def agr (st s : St) : Rz → Prop
  | .slot d => st.get d = s.get d
  | .ob o => obGet st.objs o = obGet s.objs o
  | .cnt => st.objs.length = s.objs.length
  | .tags => st.tags = s.tags

theorem agr.refl (s : St) (r : Rz) : agr s s r := by cases r <;> rfl
theorem agr.symm {a b : St} {r : Rz} (h : agr a b r) : agr b a r := by cases r <;> exact Eq.symm h
theorem agr.trans {a b c : St} {r : Rz} (h : agr a b r) (k : agr b c r) : agr a c r := by cases r <;> exact Eq.trans h k

theorem slotsZ_mem : ∀ {l : List Operand} {t : Nat}, Operand.tmp t ∈ l → Rz.slot t ∈ slotsZ l
  | [], t, h => by cases h
  | x :: l, t, h => by
    rcases List.mem_cons.1 h with h | h
    · subst h
      simp [slotsZ]
    · have := slotsZ_mem h
      cases x <;> simp [slotsZ, this]
theorem opnd_agr {st s : St} {l : List Operand} (h : ∀ r ∈ slotsZ l, agr st s r) : ∀ x ∈ l, opnd st x = opnd s x := by
  intro x hx
  cases x with
  | tmp t => exact h _ (slotsZ_mem hx)
  | _ => rfl
theorem opnds_agr {st s : St} : ∀ {l : List Operand}, (∀ x ∈ l, opnd st x = opnd s x) → opnds st l = opnds s l
  | [], h => rfl
  | x :: l, h => by
    simp only [opnds]
    rw [h x (by simp), opnds_agr (l := l) fun y hy => h y (by simp [hy])]

theorem ev_congr {T : TT} {st s : St} (o : Op) (h : ∀ x ∈ o.operands.toList, opnd st x = opnd s x) (hm : ∀ r ∈ memZ s o, agr st s r) : ev T st o = ev T s o := by
  cases o with
  | load t x =>
    simp only [ev]
    rw [h x (by simp [Op.operands])]
    simp only [memZ] at hm
    cases hx : opnd s x with
    | ref i off =>
      rw [hx] at hm
      have : obGet st.objs i = obGet s.objs i := hm (.ob i) (by simp [refZ])
      simp only [loadA, this]
    | _ => rfl
  | store t x y =>
    simp only [ev]
    rw [h x (by simp [Op.operands]), h y (by simp [Op.operands])]
    simp only [memZ] at hm
    cases hx : opnd s x with
    | ref i off =>
      rw [hx] at hm
      have : obGet st.objs i = obGet s.objs i := hm (.ob i) (by simp [refZ])
      simp only [storeA, this]
    | _ => rfl
  | buildSlice t n ps =>
    simp only [ev]
    have : (ps.toList.map fun q => (q.1, opnd st q.2)) = ps.toList.map fun q => (q.1, opnd s q.2) := by
      apply List.map_congr_left
      intro q hq
      rw [h q.2 (by
        simp only [Op.operands]
        exact List.mem_map.2 ⟨q, hq, rfl⟩)]
    rw [this]
  | slice t x lo hi mx =>
    simp only [ev]
    simp only [Op.operands] at h
    have e0 : ∀ (y : Option Operand), (∀ x ∈ y.toArray.toList, opnd st x = opnd s x) → y.map (opnd st) = y.map (opnd s) := by
      intro y hy
      cases y with
      | none => rfl
      | some y => simp only [Option.map_some]; rw [hy y (by simp)]
    rw [h x (by simp), e0 lo (fun y hy => h y (by simp at hy ⊢; simp [hy])), e0 hi (fun y hy => h y (by simp at hy ⊢; simp [hy])), e0 mx (fun y hy => h y (by simp at hy ⊢; simp [hy]))]
  | build t ps =>
    simp only [ev]
    have : (ps.toList.map fun q => (q.1, opnd st q.2)) = ps.toList.map fun q => (q.1, opnd s q.2) := by
      apply List.map_congr_left
      intro q hq
      rw [h q.2 (by
        simp only [Op.operands]
        exact List.mem_map.2 ⟨q, hq, rfl⟩)]
    rw [this]
  | call c =>
    simp only [ev, callE]
    simp only [Op.operands, Call.operands] at h
    cases hc : c.callee with
    | value f =>
      rw [hc] at h
      simp only
      rw [h f (by simp), opnds_agr fun x hx => h x (by simp [Array.mem_toList_iff.1 hx])]
    | invoke r m => rfl
    | builtin b =>
      rw [hc] at h
      simp only [memZ, hc] at hm
      have e : st.tags = s.tags := hm .tags (by simp)
      simp only
      rw [opnds_agr fun x hx => h x (by simp [Array.mem_toList_iff.1 hx]), e]
  | pick c a b =>
    simp only [ev]
    rw [h c (by simp [Op.operands]), h a (by simp [Op.operands]), h b (by simp [Op.operands])]
  | binOp op t x y t' =>
    simp only [ev]
    rw [h x (by simp [Op.operands]), h y (by simp [Op.operands])]
  | indexAddr t x y =>
    simp only [ev]
    rw [h x (by simp [Op.operands]), h y (by simp [Op.operands])]
  | index t x y =>
    simp only [ev]
    rw [h x (by simp [Op.operands]), h y (by simp [Op.operands])]
  | move x => simp only [ev]; rw [h x (by simp [Op.operands])]
  | assign x => simp only [ev]; rw [h x (by simp [Op.operands])]
  | box t x => simp only [ev]; rw [h x (by simp [Op.operands])]
  | nilCheck x => simp only [ev]; rw [h x (by simp [Op.operands])]
  | unOp op t x => simp only [ev]; rw [h x (by simp [Op.operands])]
  | convert s d x => simp only [ev]; rw [h x (by simp [Op.operands])]
  | fieldAddr s x f => simp only [ev]; rw [h x (by simp [Op.operands])]
  | field s x f => simp only [ev]; rw [h x (by simp [Op.operands])]
  | extract x i => simp only [ev]; rw [h x (by simp [Op.operands])]
  | _ => rfl

/-- Which sort of effect. -/
def Ef.kind : Ef → Nat
  | .new _ => 1
  | .set _ _ => 2
  | .row .. => 3
  | .call _ _ => 4
  | _ => 0
theorem ef_kind (r : BR) : r.ef.kind = 0 := by cases r <;> rfl
theorem efO_kind (r : Option A) : (efO r).kind = 0 := by cases r <;> rfl
theorem fieldAddrA_kind (T : TT) (s f : Nat) (x : A) : (fieldAddrA T s f x).kind = 0 := by
  unfold fieldAddrA
  repeat' split
  all_goals rfl
theorem fieldA_kind (T : TT) (s f : Nat) (x : A) : (fieldA T s f x).kind = 0 := by
  unfold fieldA
  repeat' split
  all_goals first | rfl | exact efO_kind _
theorem indexAddrA_kind (T : TT) (t : Nat) (x i : A) : (indexAddrA T t x i).kind = 0 := by
  unfold indexAddrA
  repeat' split
  all_goals rfl
theorem indexA_kind (T : TT) (t : Nat) (x i : A) : (indexA T t x i).kind = 0 := by
  unfold indexA
  repeat' split
  all_goals rfl
theorem buildA_kind (T : TT) (t : Nat) (ps : List (Nat × A)) : (buildA T t ps).kind = 0 := by
  unfold buildA
  repeat' split
  all_goals rfl
theorem buildSliceA_kind (T : TT) (t n : Nat) (ps : List (Nat × A)) : (buildSliceA T t n ps).kind = 0 ∨ ((buildSliceA T t n ps).kind = 3 ∧ n = 0) := by
  unfold buildSliceA
  repeat' split
  all_goals first | exact .inl rfl | exact .inr ⟨rfl, rfl⟩
theorem sliceA_kind (T : TT) (t : Nat) (x : A) (l h m : Option A) : (sliceA T t x l h m).kind = 0 := by
  unfold sliceA
  repeat' split
  all_goals rfl
theorem appendA_kind (T : TT) (ts : List Bool) (t t' : Nat) (s x : A) : (appendA T ts t t' s x).kind = 0 ∨ (appendA T ts t t' s x).kind = 3 := by
  unfold appendA
  repeat' split
  all_goals first | exact .inl rfl | exact .inr rfl
theorem loadA_kind (T : TT) (st : St) (t : Nat) (x : A) : (loadA T st t x).kind = 0 := by
  unfold loadA
  repeat' split
  all_goals first | rfl | exact efO_kind _
theorem storeA_kind (T : TT) (st : St) (t : Nat) (x y : A) : (storeA T st t x y).kind = 0 ∨ (storeA T st t x y).kind = 2 := by
  unfold storeA
  repeat' split
  all_goals first | exact .inl rfl | exact .inr rfl
theorem callE_kind (T : TT) (st : St) (c : Call) : (callE T st c).kind = 0 ∨ (callE T st c).kind = 4 ∨ ((callE T st c).kind = 3 ∧ ∃ b, c.callee = .builtin b) := by
  unfold callE
  cases hc : c.callee with
  | value f =>
    simp only
    cases opnd st f <;> first | exact .inl rfl | exact .inr (.inl rfl)
  | invoke r m => exact .inl rfl
  | builtin b =>
    simp only
    split
    · exact .inl (ef_kind _)
    · exact .inl (ef_kind _)
    · exact .inl (ef_kind _)
    · rename_i s x t t' _ _
      rcases appendA_kind T st.tags t t' s x with h | h
      · exact .inl h
      · exact .inr (.inr ⟨h, _, rfl⟩)
    · exact .inl rfl
theorem ev_kind (T : TT) (st : St) (o : Op) : ((ev T st o).kind = 1 → ∀ s, .cnt ∈ memZ s o) ∧ ((ev T st o).kind = 2 → ∃ t x y, o = .store t x y) ∧ ((ev T st o).kind = 3 → ∀ s, .tags ∈ memZ s o) := by
  have z : ∀ {k : Nat}, k = 0 → (k = 1 → ∀ s, .cnt ∈ memZ s o) ∧ (k = 2 → ∃ t x y, o = .store t x y) ∧ (k = 3 → ∀ s, .tags ∈ memZ s o) := by
    intro k h
    subst h
    exact ⟨fun h => absurd h (by decide), fun h => absurd h (by decide), fun h => absurd h (by decide)⟩
  cases o with
  | load t x => exact z (loadA_kind _ _ _ _)
  | store t x y => 
    refine ⟨fun h => ?_, fun h => ⟨_, _, _, rfl⟩, fun h => ?_⟩
    · rcases storeA_kind T st t (opnd st y) (opnd st x) with k | k <;> simp only [ev] at h <;> rw [k] at h <;> cases h
    · rcases storeA_kind T st t (opnd st y) (opnd st x) with k | k <;> simp only [ev] at h <;> rw [k] at h <;> cases h
  | build t ps => exact z (buildA_kind _ _ _)
  | slice t x l h m => exact z (sliceA_kind _ _ _ _ _ _)
  | buildSlice t n ps =>
    simp only [ev]
    rcases buildSliceA_kind T t n (ps.toList.map fun q => (q.1, opnd st q.2)) with k | ⟨k, rfl⟩
    · exact z k
    · rw [k]
      exact ⟨fun h => absurd h (by decide), fun h => absurd h (by decide), fun h s => by simp [memZ]⟩
  | alloc t =>
    refine ⟨fun h s => by simp [memZ], fun h => ?_, fun h => ?_⟩ <;> (simp only [ev] at h; repeat' split at h) <;> cases h
  | box t x =>
    refine ⟨fun h s => by simp [memZ], fun h => ?_, fun h => ?_⟩ <;> (simp only [ev] at h; repeat' split at h) <;> cases h
  | call c =>
    simp only [ev]
    rcases callE_kind T st c with k | k | ⟨k, b, hb⟩
    · exact z k
    · rw [k]
      exact ⟨fun h => absurd h (by decide), fun h => absurd h (by decide), fun h => absurd h (by decide)⟩
    · rw [k]
      refine ⟨fun h => absurd h (by decide), fun h => absurd h (by decide), fun h s => ?_⟩
      simp [memZ, hb]
  | pick c a b =>
    refine z ?_
    simp only [ev]
    repeat' split
    all_goals rfl
  | nilCheck x =>
    refine z ?_
    simp only [ev]
    repeat' split
    all_goals rfl
  | extract x i =>
    refine z ?_
    simp only [ev]
    repeat' split
    all_goals rfl
  | binOp op t x y t' => exact z (ef_kind _)
  | unOp op t x => exact z (ef_kind _)
  | convert s d x => exact z (ef_kind _)
  | indexAddr t x y => exact z (indexAddrA_kind _ _ _ _)
  | index t x y => exact z (indexA_kind _ _ _ _)
  | fieldAddr s x f => exact z (fieldAddrA_kind _ _ _ _)
  | field s x f => exact z (fieldA_kind _ _ _ _)
  | _ => exact z rfl
theorem ev_set_live {T : TT} {st : St} {o : Op} {i : Nat} {cs : List A} (h : ev T st o = .set i cs) : (obGet st.objs i).live = true := by
  obtain ⟨t, x, y, rfl⟩ := (ev_kind T st o).2.1 (by rw [h]; rfl)
  simp only [ev, storeA] at h
  split at h
  · rename_i oo off hx
    split at h
    · rename_i cs' ti hob hti
      split at h
      · cases h
        rw [hob]
        rfl
      · cases h
    · cases h
  · cases h

/-- The same, slot by slot. -/
theorem Rel.agr {W0 : World} {g0 g : Gh} {st s : St} {a : Act} {w : World} (h : Rel W0 g0 g st a w) (hn : st.n = s.n) (hn0 : st.n0 = s.n0) (ha : ∀ r, agr st s r) : Rel W0 g0 g s a w := by
  have e1 : st.objs = s.objs := by
    apply List.ext_getElem?
    intro i
    have h1 : obGet st.objs i = obGet s.objs i := ha (.ob i)
    have h2 : st.objs.length = s.objs.length := ha .cnt
    rw [obGet_eq, obGet_eq] at h1
    rcases Nat.lt_or_ge i st.objs.length with hi | hi
    · rw [List.getElem?_eq_getElem hi, List.getElem?_eq_getElem (h2 ▸ hi)] at h1 ⊢
      simpa using h1
    · rw [List.getElem?_eq_none hi, List.getElem?_eq_none (h2 ▸ hi)]
  have e2 : st.tags = s.tags := ha .tags
  refine ⟨h.defs, by rw [← hn]; exact h.size, fun d u hu => ?_, by rw [← e1, ← e2]; exact h.hp, h.grew, by rw [← hn0]; exact h.n0, h.pre⟩
  have : st.get d = s.get d := ha (.slot d)
  rw [← this]
  exact h.slot d u hu

theorem Rel.drawn {W0 : World} {g0 g : Gh} {st : St} {a : Act} {w : World} (h : Rel W0 g0 g st a w) (k : Nat) : Rel W0 g0 g st a { w with drawn := k } := by
  have hst : Still g.ext w g.ext { w with drawn := k } := ⟨fun _ => Nat.le_refl _, fun _ _ _ => rfl⟩
  have hl : Later g w g { w with drawn := k } := ⟨hst, fun _ _ h => h, Nat.le_refl _, fun _ _ h => ⟨h, rfl, fun _ _ => ⟨rfl, rfl⟩⟩⟩
  refine h.later hl ⟨rfl, rfl, rfl, Nat.le_refl _, fun _ _ _ _ => rfl, hst, fun _ _ _ => rfl, fun _ h => .inl h, fun _ h => .inl h⟩ rfl rfl ?_
  exact ⟨h.hp.nob, fun i o b h1 h2 => ObVal.later hl rfl (h.hp.ob i o b h1 h2), h.hp.obx, h.hp.obn, h.hp.oblt, h.hp.tag, h.hp.ntb, h.hp.tgn, h.hp.tgo, h.hp.new⟩

theorem put_n (st : St) (d : Option Nat) (x : A) : (st.put d x).n = st.n := by cases d <;> rfl
theorem put_n0 (st : St) (d : Option Nat) (x : A) : (st.put d x).n0 = st.n0 := by cases d <;> rfl
theorem put_objs (st : St) (d : Option Nat) (x : A) : (st.put d x).objs = st.objs := by cases d <;> rfl
theorem put_tags (st : St) (d : Option Nat) (x : A) : (st.put d x).tags = st.tags := by cases d <;> rfl

theorem put_off {st : St} {d : Option Nat} {x : A} {r : Rz} (h : r ∉ dstZ d) : agr (st.put d x) st r := by
  cases r with
  | slot i =>
    show (st.put d x).get i = st.get i
    rw [put_get, if_neg]
    rintro ⟨h1, _⟩
    subst h1
    simp [dstZ] at h
  | ob i => show obGet _ i = _; rw [put_objs]
  | cnt => show (st.put d x).objs.length = _; rw [put_objs]
  | tags => exact put_tags st d x
theorem put_on {st s : St} {d : Option Nat} {x : A} {r : Rz} (hn : st.n = s.n) (h : r ∈ dstZ d) : agr (st.put d x) (s.put d x) r := by
  cases d with
  | none => simp [dstZ] at h
  | some d =>
    simp only [dstZ, List.mem_singleton] at h
    subst h
    show (st.put (some d) x).get d = (s.put (some d) x).get d
    rw [put_get, put_get, hn]
    by_cases hd : d < s.n
    · rw [if_pos ⟨rfl, hd⟩, if_pos ⟨rfl, hd⟩]
    · rw [if_neg (fun h => hd h.2), if_neg (fun h => hd h.2)]
      simp only [St.get, hn]
      have : Nat.blt d s.n = false := by
        cases hb : Nat.blt d s.n with
        | false => rfl
        | true => exact absurd (by simpa [Nat.blt_eq] using hb) hd
      rw [this]

mutual
theorem bkA_flat (no nt : Nat) : ∀ (x : A), flatA x = true → bkA [] no nt x = x
  | .dead, h => rfl
  | .p x, h => rfl
  | .imm cs off, h => rfl
  | .ref o off, h => by simp [flatA] at h
  | .sref o off n, h => by simp [flatA] at h
  | .own t e sz n f, h => by simp [flatA] at h
  | .agg cs, h => by
    simp only [flatA] at h
    simp only [bkA, bks_flat no nt cs h]
  | .tup cs, h => by
    simp only [flatA] at h
    simp only [bkA, bks_flat no nt cs h]
  | .fn f cs, h => by
    simp only [flatA] at h
    simp only [bkA, bks_flat no nt cs h]
theorem bks_flat (no nt : Nat) : ∀ (xs : List A), flatA.flats xs = true → bkA.bks [] no nt xs = xs
  | [], h => rfl
  | x :: xs, h => by
    simp only [flatA.flats] at h
    cases hx : flatA x with
    | false => rw [hx] at h; cases h
    | true =>
      rw [hx] at h
      simp only [bkA.bks, bkA_flat no nt x hx, bks_flat no nt xs h]
end

section
variable {P : Program} {T : TT} {cuts : List Nat}

/-- What an operation does, told of states that agree with s on what it reads. -/
structure LocE (P : Program) (T : TT) (cuts : List Nat) (o : Oper) (wr : List Rz) (s s' : St) : Prop where
  n : s'.n = s.n
  n0 : s'.n0 = s.n0
  frame : ∀ r, r ∉ wr → agr s' s r
  go : ∀ st, st.n = s.n → st.n0 = s.n0 → (∀ r ∈ slotsZ o.op.operands.toList, agr st s r) → (∀ r ∈ memZ s o.op, agr st s r) → ∃ st', st'.n = s.n ∧ st'.n0 = s.n0 ∧ (∀ r, r ∉ wr → agr st' st r) ∧ (∀ r ∈ wr, agr st' s' r) ∧ Sat P T cuts (stepE T st o (fun x => .goal (x = st')))

theorem LocE.put {o : Oper} {s : St} (x : A) (hgo : ∀ st, st.n = s.n → ev T st o.op = ev T s o.op → Sat P T cuts (stepE T st o (fun y => .goal (y = st.put o.dst x)))) : LocE P T cuts o (dstZ o.dst) s (s.put o.dst x) := by
  refine ⟨put_n _ _ _, put_n0 _ _ _, fun r hr => put_off hr, fun st h1 h2 h3 h4 => ⟨st.put o.dst x, (put_n _ _ _).trans h1, (put_n0 _ _ _).trans h2, fun r hr => put_off hr, fun r hr => put_on h1 hr, ?_⟩⟩
  exact hgo st h1 (ev_congr o.op (opnd_agr h3) h4)

theorem stepG_loc {o : Oper} {s : St} {k1 k2 : St → Rs} (hs : Sat P T cuts (stepG T s o (fun f xs => .pcall f xs fun x => putK s o.dst x k1) k2)) :
    ∃ s', LocE P T cuts o (wrZ s o (ev T s o.op)) s s' ∧ (Sat P T cuts (k2 s') ∨ ((∃ f xs, ev T s o.op = .call f xs) ∧ Sat P T cuts (k1 s'))) := by
  unfold stepG at hs
  simp only [putK_eq, frcs_eq, snocO_eq, setO_eq, snocB_eq, killB_eq, natK_eq] at hs
  have red : ∀ (st : St) (k : St → Rs), stepE T st o k = stepG T st o (fun f xs => .call f xs st o.dst k) k := fun _ _ => rfl
  cases hev : ev T s o.op with
  | no => rw [hev] at hs; cases hs
  | val x =>
    rw [hev] at hs
    refine ⟨s.put o.dst x, LocE.put x fun st hn he => ?_, .inl hs⟩
    rw [red]
    unfold stepG
    rw [he, hev]
    simp only [putK_eq]
    exact .goal (by simp)
  | valn c x =>
    rw [hev] at hs
    cases hs with
    | need hc hk =>
      refine ⟨s.put o.dst x, LocE.put x fun st hn he => ?_, .inl hk⟩
      rw [red]
      unfold stepG
      rw [he, hev]
      simp only [putK_eq]
      exact .need hc (.goal (by simp))
  | splt b x y =>
    rw [hev] at hs
    cases hs with
    | split h1 h2 =>
      cases hb : b with
      | true =>
        refine ⟨s.put o.dst x, LocE.put x fun st hn he => ?_, .inl (h1 hb)⟩
        rw [red]
        unfold stepG
        rw [he, hev]
        simp only [putK_eq]
        exact .split (fun _ => .goal (by simp)) (fun h => by rw [hb] at h; cases h)
      | false =>
        refine ⟨s.put o.dst y, LocE.put y fun st hn he => ?_, .inl (h2 hb)⟩
        rw [red]
        unfold stepG
        rw [he, hev]
        simp only [putK_eq]
        exact .split (fun h => by rw [hb] at h; cases h) (fun _ => .goal (by simp))
  | new cs =>
    rw [hev] at hs
    refine ⟨_, ?_, .inl hs⟩
    refine ⟨by rw [put_n], by rw [put_n0], fun r hr => ?_, fun st h1 h2 h3 h4 => ?_⟩
    · simp only [wrZ, List.mem_cons, not_or] at hr
      refine agr.trans (put_off hr.2.2) ?_
      cases r with
      | slot d => rfl
      | ob i =>
        have hi : i ≠ s.objs.length := fun h => hr.1 (by rw [lenO_eq, h])
        show obGet (s.objs ++ [_]) i = obGet s.objs i
        rw [obGet_eq, obGet_eq]
        rcases Nat.lt_or_ge i s.objs.length with hl | hl
        · rw [List.getElem?_append_left hl]
        · rw [List.getElem?_eq_none (by simp; omega), List.getElem?_eq_none hl]
      | cnt => exact absurd rfl hr.2.1
      | tags => rfl
    · have he := ev_congr (T := T) o.op (opnd_agr h3) h4
      have hcnt : st.objs.length = s.objs.length := by
        exact h4 .cnt ((ev_kind T s o.op).1 (by rw [hev]; rfl) s)
      refine ⟨{ st with objs := st.objs ++ [Ob.cells cs] }.put o.dst (.ref (lenO st.objs) 0), by rw [put_n]; exact h1, by rw [put_n0]; exact h2, fun r hr => ?_, fun r hr => ?_, ?_⟩
      · simp only [wrZ, List.mem_cons, not_or] at hr
        refine agr.trans (put_off hr.2.2) ?_
        cases r with
        | slot d => rfl
        | ob i =>
          have hi : i ≠ s.objs.length := fun h => hr.1 (by rw [lenO_eq, h])
          show obGet (st.objs ++ [_]) i = obGet st.objs i
          rw [obGet_eq, obGet_eq]
          rcases Nat.lt_or_ge i st.objs.length with hl | hl
          · rw [List.getElem?_append_left hl]
          · rw [List.getElem?_eq_none (by simp; omega), List.getElem?_eq_none hl]
        | cnt => exact absurd rfl hr.2.1
        | tags => rfl
      · simp only [wrZ, List.mem_cons] at hr
        rw [lenO_eq, hcnt, ← lenO_eq]
        rcases hr with hr | hr | hr
        · subst hr
          show obGet (St.put _ _ _).objs _ = obGet (St.put _ _ _).objs _
          rw [put_objs, put_objs]
          show obGet (st.objs ++ [_]) _ = obGet (s.objs ++ [_]) _
          rw [obGet_eq, obGet_eq, lenO_eq, ← hcnt, List.getElem?_append_right (Nat.le_refl _), hcnt, List.getElem?_append_right (Nat.le_refl _), Nat.sub_self]
        · subst hr
          show (St.put _ _ _).objs.length = (St.put _ _ _).objs.length
          rw [put_objs, put_objs]
          simp [hcnt]
        · exact put_on h1 hr
      · rw [red]
        unfold stepG
        rw [he, hev]
        simp only [putK_eq, frcs_eq, snocO_eq, natK_eq]
        exact .goal (by simp)
  | set i cs =>
    rw [hev] at hs
    have hlive : ∀ st, ev T st o.op = .set i cs → (obGet st.objs i).live = true := fun st h => ev_set_live h
    refine ⟨_, ?_, .inl hs⟩
    refine ⟨by rw [put_n], by rw [put_n0], fun r hr => ?_, fun st h1 h2 h3 h4 => ?_⟩
    · simp only [wrZ, List.mem_cons, not_or] at hr
      refine agr.trans (put_off hr.2) ?_
      cases r with
      | slot d => rfl
      | ob j =>
        have hi : i ≠ j := fun h => hr.1 (by rw [h])
        show obGet (obSet s.objs i _) j = obGet s.objs j
        rw [obGet_eq, obGet_eq, obSet_eq, List.getElem?_set_ne hi]
      | cnt => show (obSet s.objs i _).length = _; rw [obSet_eq, List.length_set]
      | tags => rfl
    · have he := ev_congr (T := T) o.op (opnd_agr h3) h4
      refine ⟨{ st with objs := obSet st.objs i (Ob.cells cs) }.put o.dst .dead, by rw [put_n]; exact h1, by rw [put_n0]; exact h2, fun r hr => ?_, fun r hr => ?_, ?_⟩
      · simp only [wrZ, List.mem_cons, not_or] at hr
        refine agr.trans (put_off hr.2) ?_
        cases r with
        | slot d => rfl
        | ob j =>
          have hi : i ≠ j := fun h => hr.1 (by rw [h])
          show obGet (obSet st.objs i _) j = obGet st.objs j
          rw [obGet_eq, obGet_eq, obSet_eq, List.getElem?_set_ne hi]
        | cnt => show (obSet st.objs i _).length = _; rw [obSet_eq, List.length_set]
        | tags => rfl
      · simp only [wrZ, List.mem_cons] at hr
        rcases hr with hr | hr
        · subst hr
          show obGet (St.put _ _ _).objs _ = obGet (St.put _ _ _).objs _
          rw [put_objs, put_objs]
          show obGet (obSet st.objs i _) i = obGet (obSet s.objs i _) i
          have k1 := obGet_live rfl (hlive st (he.trans hev))
          have k2 := obGet_live rfl (hlive s hev)
          have l1 := (List.getElem?_eq_some_iff.1 k1).1
          have l2 := (List.getElem?_eq_some_iff.1 k2).1
          rw [obGet_eq, obGet_eq, obSet_eq, obSet_eq, List.getElem?_set_self l1, List.getElem?_set_self l2]
        · exact put_on h1 hr
      · rw [red]
        unfold stepG
        rw [he, hev]
        simp only [putK_eq, frcs_eq, setO_eq]
        exact .goal (by simp)
  | row c kill e sz n f =>
    rw [hev] at hs
    cases hs with
    | need hc hk =>
      refine ⟨_, ?_, .inl hk⟩
      refine ⟨by rw [put_n], by rw [put_n0], fun r hr => ?_, fun st h1 h2 h3 h4 => ?_⟩
      · simp only [wrZ, List.mem_cons, not_or] at hr
        refine agr.trans (put_off hr.2) ?_
        cases r with
        | tags => exact absurd rfl hr.1
        | _ => rfl
      · have he := ev_congr (T := T) o.op (opnd_agr h3) h4
        have htag : st.tags = s.tags := by
          exact h4 .tags ((ev_kind T s o.op).2.2 (by rw [hev]; rfl) s)
        refine ⟨{ st with tags := killT st.tags kill ++ [true] }.put o.dst (.own (lenB st.tags) e sz n f), by rw [put_n]; exact h1, by rw [put_n0]; exact h2, fun r hr => ?_, fun r hr => ?_, ?_⟩
        · simp only [wrZ, List.mem_cons, not_or] at hr
          refine agr.trans (put_off hr.2) ?_
          cases r with
          | tags => exact absurd rfl hr.1
          | _ => rfl
        · simp only [wrZ, List.mem_cons] at hr
          rw [htag]
          rcases hr with hr | hr
          · subst hr
            show (St.put _ _ _).tags = (St.put _ _ _).tags
            rw [put_tags, put_tags]
          · exact put_on h1 hr
        · rw [red]
          unfold stepG
          rw [he, hev]
          simp only [putK_eq, snocB_eq, killB_eq, natK_eq]
          exact .need hc (.goal (by simp))
  | bld sz n f =>
    rw [hev] at hs
    refine ⟨s.put o.dst (.p (.sl sz n f)), LocE.put _ fun st hn he => ?_, .inl hs⟩
    rw [red]
    unfold stepG
    rw [he, hev]
    simp only [putK_eq]
    exact .goal (by simp)
  | call f xs =>
    rw [hev] at hs
    cases hs with
    | pcall own sp hle hx next =>
      rename_i ys x
      refine ⟨s.put o.dst x, LocE.put x fun st hn he => ?_, .inr ⟨⟨_, _, rfl⟩, next⟩⟩
      rw [red]
      unfold stepG
      rw [he, hev]
      refine .call own [] [] sp hle ⟨rfl, fun i o x h => by simp at h, fun o h => by simp at h, List.nodup_nil, fun t h => by simp at h, rfl, fun i j t h => by simp at h⟩ ?_
      rintro r ob tg ⟨rfl, rfl, rfl⟩
      rw [backK_eq]
      refine .goal ?_
      simp only [backSt, bkObs, upd, die, tcat]
      rw [bkA_flat _ _ _ hx]
end
end Go.Proofs.YtijakklhklcjhaaA
