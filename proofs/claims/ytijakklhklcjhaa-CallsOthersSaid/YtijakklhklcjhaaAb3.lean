/- A state says less than another; a state handed to a callee, and what comes back of it. -/
import Derived.Test.YtijakklhklcjhaaAb2
namespace Go.Proofs.YtijakklhklcjhaaA
open Go Go.RowKit
set_option linter.unusedVariables false
set_option linter.unusedSimpArgs false

def nilSl : D := .v (.slice none 0 0)
def leD : D → D → Prop
  | .v x, .v y => x = y
  | .v x, .sl sz n f => x = .slice none 0 0 ∧ n = 0
  | .sl sz n f, .sl sz' n' f' => sz = sz' ∧ n = n' ∧ ∀ i, i < n → f i = f' i
  | .sl _ _ _, .v _ => False

/-- What the first value (its objects by their places, its tags) is, the second one is: its object i is m[i], its tag t is tl[t] (none: a new one, of no row). -/
def le (m : List Nat) (tl : List (Option Nat)) : A → A → Prop
  | _, .dead => True
  | .p a, .p b => leD a b
  | .own t e sz n f, .p b => leD (.sl sz n f) b
  | .agg xs, .agg ys => les m tl xs ys
  | .tup xs, .tup ys => les m tl xs ys
  | .ref o off, .ref i off' => off = off' ∧ m[i]? = some o
  | .imm cs off, .imm cs' off' => cs = cs' ∧ off = off'
  | .own t e sz n f, .own t' e' sz' n' f' => tl[t']? = some (some t) ∧ e = e' ∧ leD (.sl sz n f) (.sl sz' n' f')
  | .p a, .own t' e' sz' n' f' => a = nilSl ∧ n' = 0 ∧ tl[t']? = some none
  | .sref o off n, .sref i off' n' => off = off' ∧ n = n' ∧ m[i]? = some o
  | .fn f xs, .fn f' ys => f = f' ∧ les m tl xs ys
  | _, _ => False
where les (m : List Nat) (tl : List (Option Nat)) : List A → List A → Prop
  | [], [] => True
  | x :: xs, y :: ys => le m tl x y ∧ les m tl xs ys
  | _, _ => False

def Gh.re (g : Gh) (m : List Nat) (tl : List (Option Nat)) : Gh where
  ext := g.ext
  blks := m.map fun o => g.blks.getD o 0
  tbl := tl.map fun
    | some t => g.tbl.getD t none
    | none => none
  alive := tl.map fun _ => true

theorem DVal_leD {ext : Nat → Nat} {w : World} : ∀ {a b : D} {u : Value}, DVal ext w a u → leD a b → DVal ext w b u
  | .v x, .v y, u, h, hl => by
    simp only [leD] at hl
    subst hl
    exact h
  | .v x, .sl sz n f, u, h, hl => by
    simp only [leD] at hl
    obtain ⟨rfl, rfl⟩ := hl
    simp only [DVal] at h
    subst h
    simp only [DVal]
    exact ⟨[], ⟨by simp, .inl ⟨rfl, rfl⟩⟩, fun i hi => by omega⟩
  | .sl sz n f, .sl sz' n' f', u, h, hl => by
    simp only [leD] at hl
    obtain ⟨rfl, rfl, hf⟩ := hl
    simp only [DVal] at h ⊢
    obtain ⟨us, h1, h2⟩ := h
    exact ⟨us, h1, fun i hi => by rw [← hf i hi]; exact h2 i hi⟩
  | .sl _ _ _, .v _, u, h, hl => by simp only [leD] at hl

/-- Places and tags are right: objects that are there, each once; tags that are alive, each once. -/
structure Good (g : Gh) (m : List Nat) (tl : List (Option Nat)) : Prop where
  m : ∀ o, o ∈ m → o < g.blks.length
  tl : ∀ t, some t ∈ tl → g.alive[t]? = some true
  len : g.tbl.length = g.alive.length

theorem re_blks {g : Gh} {m : List Nat} {tl : List (Option Nat)} (hg : Good g m tl) {i o : Nat} (h : m[i]? = some o) : (g.re m tl).blks[i]? = g.blks[o]? := by
  have hlt := hg.m o (List.mem_of_getElem? h)
  simp [Gh.re, h, List.getD, List.getElem?_eq_getElem hlt]
theorem re_tbl {g : Gh} {m : List Nat} {tl : List (Option Nat)} (hg : Good g m tl) {i t : Nat} (h : tl[i]? = some (some t)) : (g.re m tl).tbl[i]? = g.tbl[t]? := by
  have h1 := hg.tl t (List.mem_of_getElem? h)
  have hlt : t < g.tbl.length := by
    rw [hg.len]
    exact (List.getElem?_eq_some_iff.1 h1).1
  simp [Gh.re, h, List.getD, List.getElem?_eq_getElem hlt]
theorem re_tbl0 {g : Gh} {m : List Nat} {tl : List (Option Nat)} {i : Nat} (h : tl[i]? = some none) : (g.re m tl).tbl[i]? = some none := by
  simp [Gh.re, h]

mutual
theorem AVal_le {g : Gh} {w : World} {m : List Nat} {tl : List (Option Nat)} (hg : Good g m tl) : ∀ (x y : A) (u : Value), le m tl x y → AVal g w x u → AVal (g.re m tl) w y u
  | x, .dead, u, hl, h => by simp only [AVal]
  | .p a, .p b, u, hl, h => by
    simp only [le] at hl
    simp only [AVal] at h ⊢
    exact DVal_leD h hl
  | .own t e sz n f, .p b, u, hl, h => by
    simp only [le] at hl
    simp only [AVal] at h ⊢
    exact DVal_leD h.2.1 hl
  | .agg xs, .agg ys, u, hl, h => by
    simp only [le] at hl
    simp only [AVal] at h ⊢
    obtain ⟨us, h1, h2⟩ := h
    exact ⟨us, h1, AVals_le hg xs ys _ hl h2⟩
  | .tup xs, .tup ys, u, hl, h => by
    simp only [le] at hl
    simp only [AVal] at h ⊢
    obtain ⟨us, h1, h2⟩ := h
    exact ⟨us, h1, AVals_le hg xs ys _ hl h2⟩
  | .ref o off, .ref i off', u, hl, h => by
    simp only [le] at hl
    simp only [AVal] at h ⊢
    obtain ⟨b, h1, h2⟩ := h
    exact ⟨b, by rw [re_blks hg hl.2]; exact h1, by rw [← hl.1]; exact h2⟩
  | .imm cs off, .imm cs' off', u, hl, h => by
    simp only [le] at hl
    obtain ⟨rfl, rfl⟩ := hl
    simp only [AVal] at h ⊢
    exact h
  | .own t e sz n f, .own t' e' sz' n' f', u, hl, h => by
    simp only [le] at hl
    obtain ⟨ht, rfl, hd⟩ := hl
    have hd' := hd
    simp only [leD] at hd'
    obtain ⟨rfl, rfl, _⟩ := hd'
    simp only [AVal] at h ⊢
    refine ⟨?_, DVal_leD h.2.1 hd, fun _ => ?_⟩
    · have := (List.getElem?_eq_some_iff.1 ht).1
      simpa [Gh.re] using this
    · obtain ⟨h1, h2, h3⟩ := h.2.2 (hg.tl t (List.mem_of_getElem? ht))
      exact ⟨by rw [re_tbl hg ht]; exact h1, h2, h3⟩
  | .p a, .own t' e' sz' n' f', u, hl, h => by
    simp only [le] at hl
    obtain ⟨rfl, rfl, ht⟩ := hl
    simp only [AVal, nilSl, DVal] at h
    subst h
    simp only [AVal, DVal]
    refine ⟨?_, ⟨[], ⟨by simp, .inl ⟨rfl, rfl⟩⟩, fun i hi => by omega⟩, fun _ => ⟨?_, ⟨[], World.ownsRow_nil _ _ _ _⟩, fun b hb => by simp [Value.ownBlock] at hb⟩⟩
    · have := (List.getElem?_eq_some_iff.1 ht).1
      simpa [Gh.re] using this
    · rw [re_tbl0 ht]
      rfl
  | .sref o off n, .sref i off' n', u, hl, h => by
    simp only [le] at hl
    obtain ⟨rfl, rfl, ho⟩ := hl
    simp only [AVal] at h ⊢
    obtain ⟨b, c, h1, h2⟩ := h
    exact ⟨b, c, by rw [re_blks hg ho]; exact h1, h2⟩
  | .fn f xs, .fn f' ys, u, hl, h => by
    simp only [le] at hl
    obtain ⟨rfl, hl⟩ := hl
    simp only [AVal] at h ⊢
    obtain ⟨us, h1, h2⟩ := h
    exact ⟨us, h1, AVals_le hg xs ys _ hl h2⟩
theorem AVals_le {g : Gh} {w : World} {m : List Nat} {tl : List (Option Nat)} (hg : Good g m tl) : ∀ (xs ys : List A) (us : List Value), le.les m tl xs ys → AVals g w xs us → AVals (g.re m tl) w ys us
  | [], [], us, hl, h => by simpa only [AVals] using h
  | x :: xs, y :: ys, us, hl, h => by
    simp only [le.les] at hl
    simp only [AVals] at h ⊢
    obtain ⟨u, us', h0, h1, h2⟩ := h
    exact ⟨u, us', h0, AVal_le hg x y u hl.1 h1, AVals_le hg xs ys us' hl.2 h2⟩
end

def leOb (m : List Nat) (tl : List (Option Nat)) : Ob → Ob → Prop
  | _, .dead => True
  | .cells xs, .cells ys => le.les m tl xs ys
  | .iter s p, .iter s' p' => s = s' ∧ p = p'
  | _, _ => False

/-- Objects and tags under new numbers. -/
structure LeHp (m : List Nat) (tl : List (Option Nat)) (objs : List Ob) (tags : List Bool) (objs' : List Ob) (tags' : List Bool) : Prop where
  len : objs'.length = m.length
  ob : ∀ (i o : Nat) (x : Ob), m[i]? = some o → objs'[i]? = some x → leOb m tl (obGet objs o) x
  lt : ∀ o, o ∈ m → o < objs.length
  nd : m.Nodup
  al : ∀ t, some t ∈ tl → tags[t]? = some true
  tg : tags' = tl.map fun _ => true
  tnd : ∀ (i j t : Nat), tl[i]? = some (some t) → tl[j]? = some (some t) → i = j

theorem LeHp.good {g : Gh} {m : List Nat} {tl : List (Option Nat)} {objs objs' : List Ob} {tags tags' : List Bool} {w : World} (h : LeHp m tl objs tags objs' tags') (hp : Hp g objs tags w) : Good g m tl :=
  ⟨fun o ho => by rw [hp.nob]; exact h.lt o ho, fun t ht => by rw [hp.tag]; exact h.al t ht, by rw [hp.ntb, hp.tag]⟩

theorem re_objd {g : Gh} {m : List Nat} {tl : List (Option Nat)} (hg : Good g m tl) {b : Nat} (h : (g.re m tl).objd b) : ∃ (i o : Nat), m[i]? = some o ∧ g.blks[o]? = some b := by
  obtain ⟨i, hi⟩ := h
  cases hm : m[i]? with
  | none => simp [Gh.re, hm] at hi
  | some o => exact ⟨i, o, hm, by rw [← re_blks hg hm]; exact hi⟩
theorem re_tagged {g : Gh} {m : List Nat} {tl : List (Option Nat)} (hg : Good g m tl) {i b : Nat} (h : (g.re m tl).tbl[i]? = some (some b)) : ∃ t : Nat, tl[i]? = some (some t) ∧ g.tbl[t]? = some (some b) ∧ g.alive[t]? = some true := by
  cases ht : tl[i]? with
  | none => simp [Gh.re, ht] at h
  | some o =>
    cases o with
    | none =>
      rw [re_tbl0 ht] at h
      cases h
    | some t => exact ⟨t, rfl, by rw [← re_tbl hg ht]; exact h, hg.tl t (List.mem_of_getElem? ht)⟩

theorem Hp.re {g : Gh} {m : List Nat} {tl : List (Option Nat)} {objs objs' : List Ob} {tags tags' : List Bool} {w : World} (hp : Hp g objs tags w) (h : LeHp m tl objs tags objs' tags') : Hp (g.re m tl) objs' tags' w := by
  have hg := h.good hp
  have hm : ∀ (i b : Nat), (g.re m tl).blks[i]? = some b → ∃ o : Nat, m[i]? = some o ∧ g.blks[o]? = some b := by
    intro i b hi
    cases hm : m[i]? with
    | none => simp [Gh.re, hm] at hi
    | some o => exact ⟨o, rfl, by rw [← re_blks hg hm]; exact hi⟩
  have hob : ∀ (i b : Nat) (x : Ob), objs'[i]? = some x → (g.re m tl).blks[i]? = some b → ∃ o : Nat, g.blks[o]? = some b ∧ leOb m tl (obGet objs o) x ∧ m[i]? = some o := by
    intro i b x hx hb
    obtain ⟨o, h1, h2⟩ := hm i b hb
    exact ⟨o, h2, h.ob i o x h1 hx, h1⟩
  refine ⟨by simp [Gh.re, h.len], ?_, ?_, ?_, ?_, ?_, ?_, ?_, ?_, fun b hb => hp.new b hb⟩
  · intro i x b hx hb
    obtain ⟨o, h1, h2, h3⟩ := hob i b x hx hb
    cases x with
    | dead => trivial
    | cells ys =>
      cases ho : obGet objs o with
      | dead => rw [ho] at h2; exact h2.elim
      | iter s p => rw [ho] at h2; exact h2.elim
      | cells xs =>
        rw [ho] at h2
        obtain ⟨us, T, k1, k2, k3⟩ := hp.ob o (.cells xs) b (obGet_live ho rfl) h1
        exact ⟨us, T, k1, AVals_le hg xs ys _ h2 k2, k3⟩
    | iter s p =>
      cases ho : obGet objs o with
      | dead => rw [ho] at h2; exact h2.elim
      | cells xs => rw [ho] at h2; exact h2.elim
      | iter s' p' =>
        rw [ho] at h2
        obtain ⟨rfl, rfl⟩ := h2
        exact hp.ob o _ b (obGet_live ho rfl) h1
  · intro i x b hx hl hb
    obtain ⟨o, h1, h2, h3⟩ := hob i b x hx hb
    have hlive : (obGet objs o).live = true := by
      cases x with
      | dead => cases hl
      | cells ys =>
        cases ho : obGet objs o with
        | dead => rw [ho] at h2; exact h2.elim
        | iter s p => rfl
        | cells xs => rfl
      | iter s p =>
        cases ho : obGet objs o with
        | dead => rw [ho] at h2; exact h2.elim
        | iter s p => rfl
        | cells xs => rfl
    exact hp.obx o _ b (obGet_live rfl hlive) hlive h1
  · intro i j b hi hj
    obtain ⟨o, h1, h2⟩ := hm i b hi
    obtain ⟨o', h3, h4⟩ := hm j b hj
    have := hp.obn o o' b h2 h4
    subst this
    exact (List.getElem?_inj (List.getElem?_eq_some_iff.1 h1).1 h.nd).1 (h1.trans h3.symm)
  · intro i b hi
    obtain ⟨o, h1, h2⟩ := hm i b hi
    exact hp.oblt o b h2
  · rw [h.tg]
    rfl
  · simp [Gh.re, h.tg]
  · intro t t' b _ _ h1 h2
    obtain ⟨q, a1, a2, a3⟩ := re_tagged hg h1
    obtain ⟨q', b1, b2, b3⟩ := re_tagged hg h2
    have := hp.tgn q q' b a3 b3 a2 b2
    subst this
    exact h.tnd t t' q a1 b1
  · intro t b _ h1
    obtain ⟨q, a1, a2, a3⟩ := re_tagged hg h1
    obtain ⟨k1, k2⟩ := hp.tgo q b a3 a2
    refine ⟨fun i hi => ?_, k2⟩
    obtain ⟨o, h3, h4⟩ := hm i b hi
    exact k1 o h4

theorem re_sub {g : Gh} {m : List Nat} {tl : List (Option Nat)} (hg : Good g m tl) : (∀ b, (g.re m tl).objd b → g.objd b) ∧ ∀ b, (g.re m tl).tagged b → g.tagged b := by
  refine ⟨fun b h => ?_, fun b h => ?_⟩
  · obtain ⟨i, o, _, h2⟩ := re_objd hg h
    exact ⟨o, h2⟩
  · obtain ⟨i, _, hi⟩ := h
    obtain ⟨t, _, h2, h3⟩ := re_tagged hg hi
    exact ⟨t, h3, h2⟩

theorem Grew.re {W0 w : World} {g0 g : Gh} {m : List Nat} {tl : List (Option Nat)} (h : Grew W0 g0 w g) (hg : Good g m tl) : Grew W0 g0 w (g.re m tl) :=
  ⟨h.os, h.tape, h.output, h.size, h.old, h.still, h.ext, fun b hb => h.blks b ((re_sub hg).1 b hb), fun b hb => h.tags b ((re_sub hg).2 b hb)⟩

def Weak (st st' : St) : Prop := ∀ (W0 : World) (g0 g : Gh) (a : Act) (w : World), Rel W0 g0 g st a w → ∃ g', Rel W0 g0 g' st' a w

/-- Each slot that the new state tells. -/
def leSl (m : List Nat) (tl : List (Option Nat)) (st : St) : List (Nat × A) → Prop
  | [] => True
  | (d, y) :: l => le m tl (st.get d) y ∧ leSl m tl st l

theorem leSl_get {m : List Nat} {tl : List (Option Nat)} {st : St} : ∀ {l : List (Nat × A)}, leSl m tl st l → ∀ d, le m tl (st.get d) (lk l d)
  | [], h, d => by simp [lk, le]
  | (k, y) :: l, h, d => by
    simp only [leSl] at h
    simp only [lk]
    cases hb : Nat.beq k d with
    | true =>
      have := Nat.eq_of_beq_eq_true hb
      subst this
      exact h.1
    | false => exact leSl_get h.2 d

theorem le_dead {m : List Nat} {tl : List (Option Nat)} (x : A) : le m tl x .dead := by cases x <;> simp [le]

theorem Weak.of {st st' : St} (m : List Nat) (tl : List (Option Nat)) (hn : st'.n = st.n) (hn0 : st'.n0 = st.n0) (hm : ∀ i, i < st.n0 → m[i]? = some i) (hs : leSl m tl st st'.slots) (hh : LeHp m tl st.objs st.tags st'.objs st'.tags) : Weak st st' := by
  intro W0 g0 g a w h
  have hg := hh.good h.hp
  refine ⟨g.re m tl, h.defs, by rw [hn]; exact h.size, fun d u hu => ?_, h.hp.re hh, h.grew.re hg, by rw [hn0]; exact h.n0, fun i b hi => ?_⟩
  case refine_2 =>
    have hlt : i < st.n0 := by rw [← h.n0]; exact (List.getElem?_eq_some_iff.1 hi).1
    rw [re_blks hg (hm i hlt)]
    exact h.pre i b hi
  refine AVal_le hg _ _ u ?_ (h.slot d u hu)
  simp only [St.get]
  cases hb : Nat.blt d st'.n with
  | true =>
    have := leSl_get hs d
    simp only [St.get] at this
    exact this
  | false => exact le_dead _
theorem Weak.refl (st : St) : Weak st st := fun _ _ g _ _ h => ⟨g, h⟩
end Go.Proofs.YtijakklhklcjhaaA
