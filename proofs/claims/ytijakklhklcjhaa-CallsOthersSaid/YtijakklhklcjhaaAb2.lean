/- States of a walk over abstract values; what a state says of a frame and a world; steps that keep it. -/
import Derived.Test.YtijakklhklcjhaaAb1
namespace Go.Proofs.YtijakklhklcjhaaA
open Go Go.RowKit
set_option linter.unusedVariables false
set_option linter.unusedSimpArgs false

structure St where
  n : Nat
  n0 : Nat
  slots : List (Nat × A)
  objs : List Ob
  tags : List Bool

def lk : List (Nat × A) → Nat → A
  | [], _ => .dead
  | (k, a) :: l, d => match Nat.beq k d with
    | true => a
    | false => lk l d
def St.get (st : St) (d : Nat) : A := match Nat.blt d st.n with
  | true => lk st.slots d
  | false => .dead
def St.put (st : St) (d : Option Nat) (x : A) : St := match d with
  | some d => { st with slots := (d, x) :: st.slots }
  | none => st
def obGet : List Ob → Nat → Ob
  | [], _ => .dead
  | o :: _, 0 => o
  | _ :: l, i + 1 => obGet l i
def obSet : List Ob → Nat → Ob → List Ob
  | [], _, _ => []
  | _ :: l, 0, x => x :: l
  | o :: l, i + 1, x => o :: obSet l i x

theorem obGet_eq : ∀ (l : List Ob) (i : Nat), obGet l i = (l[i]?).getD .dead
  | [], i => by simp [obGet]
  | o :: l, 0 => rfl
  | o :: l, i + 1 => by simp [obGet, obGet_eq l i]
theorem obSet_eq : ∀ (l : List Ob) (i : Nat) (x : Ob), obSet l i x = l.set i x
  | [], i, x => by simp [obSet]
  | o :: l, 0, x => rfl
  | o :: l, i + 1, x => by simp [obSet, obSet_eq l i x]
theorem obGet_live {l : List Ob} {i : Nat} {o : Ob} (h : obGet l i = o) (hl : o.live = true) : l[i]? = some o := by
  rw [obGet_eq] at h
  cases hi : l[i]? with
  | none =>
    rw [hi] at h
    simp at h
    subst h
    simp [Ob.live] at hl
  | some o' =>
    rw [hi] at h
    simp at h
    rw [h]

/-- What stands in memory. -/
structure Hp (g : Gh) (objs : List Ob) (tags : List Bool) (w : World) : Prop where
  nob : g.blks.length = objs.length
  ob : ∀ (i : Nat) (o : Ob) (b : Nat), objs[i]? = some o → g.blks[i]? = some b → ObVal g w b o
  obx : ∀ (i : Nat) (o : Ob) (b : Nat), objs[i]? = some o → o.live = true → g.blks[i]? = some b → g.ext b = 0
  obn : ∀ (i j b : Nat), g.blks[i]? = some b → g.blks[j]? = some b → i = j
  oblt : ∀ (i b : Nat), g.blks[i]? = some b → b < w.heap.size
  tag : g.alive = tags
  ntb : g.tbl.length = tags.length
  tgn : ∀ (t t' b : Nat), g.alive[t]? = some true → g.alive[t']? = some true → g.tbl[t]? = some (some b) → g.tbl[t']? = some (some b) → t = t'
  tgo : ∀ (t b : Nat), g.alive[t]? = some true → g.tbl[t]? = some (some b) → (∀ (i : Nat), g.blks[i]? ≠ some b) ∧ b < w.heap.size
  new : ∀ b, w.heap.size ≤ b → g.ext b = 0

/-- b is the row of a tag of g that is alive. -/
def Gh.tagged (g : Gh) (b : Nat) : Prop := ∃ t : Nat, g.alive[t]? = some true ∧ g.tbl[t]? = some (some b)
def Gh.objd (g : Gh) (b : Nat) : Prop := ∃ i : Nat, g.blks[i]? = some b

/-- From the begin of a call (W0, g0) to now. -/
structure Grew (W0 : World) (g0 : Gh) (w : World) (g : Gh) : Prop where
  os : w.os = W0.os
  tape : w.tape = W0.tape
  output : w.output = W0.output
  size : W0.heap.size ≤ w.heap.size
  old : ∀ b, b < W0.heap.size → ¬ g0.objd b → ¬ g0.tagged b → w.heap[b]? = W0.heap[b]?
  still : Still g0.ext W0 g.ext w
  ext : ∀ b, b < W0.heap.size → ¬ g0.tagged b → g.ext b = g0.ext b
  blks : ∀ b, g.objd b → g0.objd b ∨ W0.heap.size ≤ b
  tags : ∀ b, g.tagged b → g0.tagged b ∨ W0.heap.size ≤ b

theorem Grew.refl (w : World) (g : Gh) : Grew w g w g := ⟨rfl, rfl, rfl, Nat.le_refl _, fun _ _ _ _ => rfl, Still.refl _ _, fun _ _ _ => rfl, fun _ h => .inl h, fun _ h => .inl h⟩

/-- A step within a call. -/
structure Steps1 (g : Gh) (w : World) (g' : Gh) (w' : World) : Prop where
  os : w'.os = w.os
  tape : w'.tape = w.tape
  output : w'.output = w.output
  size : w.heap.size ≤ w'.heap.size
  old : ∀ b, b < w.heap.size → ¬ g.objd b → ¬ g.tagged b → w'.heap[b]? = w.heap[b]?
  still : Still g.ext w g'.ext w'
  ext : ∀ b, b < w.heap.size → ¬ g.tagged b → g'.ext b = g.ext b
  blks : ∀ b, g'.objd b → g.objd b ∨ w.heap.size ≤ b
  tags : ∀ b, g'.tagged b → g.tagged b ∨ w.heap.size ≤ b

theorem Grew.step {W0 w w' : World} {g0 g g' : Gh} (h : Grew W0 g0 w g) (k : Steps1 g w g' w') : Grew W0 g0 w' g' where
  os := k.os.trans h.os
  tape := k.tape.trans h.tape
  output := k.output.trans h.output
  size := Nat.le_trans h.size k.size
  old := fun b hb h1 h2 => by
    refine (k.old b (Nat.lt_of_lt_of_le hb h.size) (fun ho => ?_) (fun ht => ?_)).trans (h.old b hb h1 h2)
    · rcases h.blks b ho with h3 | h3
      · exact h1 h3
      · omega
    · rcases h.tags b ht with h3 | h3
      · exact h2 h3
      · omega
  still := h.still.trans k.still
  ext := fun b hb h2 => by
    refine (k.ext b (Nat.lt_of_lt_of_le hb h.size) (fun ht => ?_)).trans (h.ext b hb h2)
    rcases h.tags b ht with h3 | h3
    · exact h2 h3
    · omega
  blks := fun b hb => by
    rcases k.blks b hb with h1 | h1
    · exact h.blks b h1
    · exact .inr (Nat.le_trans h.size h1)
  tags := fun b hb => by
    rcases k.tags b hb with h1 | h1
    · exact h.tags b h1
    · exact .inr (Nat.le_trans h.size h1)

structure Rel (W0 : World) (g0 : Gh) (g : Gh) (st : St) (a : Act) (w : World) : Prop where
  defs : a.defers = []
  size : a.tmps.size = st.n
  slot : ∀ (d : Nat) (u : Value), a.tmps[d]? = some u → AVal g w (st.get d) u
  hp : Hp g st.objs st.tags w
  grew : Grew W0 g0 w g
  n0 : g0.blks.length = st.n0
  pre : ∀ (i b : Nat), g0.blks[i]? = some b → g.blks[i]? = some b

theorem put_get (st : St) (d : Option Nat) (x : A) (i : Nat) : (st.put d x).get i = if d = some i ∧ i < st.n then x else st.get i := by
  cases d with
  | none => simp [St.put]
  | some d =>
    simp only [St.put, St.get, lk]
    by_cases hn : i < st.n
    · have e : Nat.blt i st.n = true := by simp [Nat.blt_eq, hn]
      rw [e]
      simp only
      by_cases hd : d = i
      · subst hd
        simp [Nat.beq_refl, hn]
      · have e2 : Nat.beq d i = false := by
          cases hb : Nat.beq d i with
          | false => rfl
          | true => exact absurd (Nat.eq_of_beq_eq_true hb) hd
        rw [e2]
        simp [hd]
    · have e : Nat.blt i st.n = false := by
        cases hb : Nat.blt i st.n with
        | false => rfl
        | true => exact absurd (by simpa [Nat.blt_eq] using hb) hn
      rw [e]
      simp [hn]

/-- Behind an operation: its value in its slot. -/
theorem Rel.put {W0 : World} {g0 g : Gh} {st : St} {a : Act} {w : World} (h : Rel W0 g0 g st a w) (d : Option Nat) {x : A} {v : Value} (hv : AVal g w x v) : Rel W0 g0 g (st.put d x) (a.put d v) w := by
  have hn : (st.put d x).n = st.n := by cases d <;> rfl
  have ho : (st.put d x).objs = st.objs := by cases d <;> rfl
  have ht : (st.put d x).tags = st.tags := by cases d <;> rfl
  have h0 : (st.put d x).n0 = st.n0 := by cases d <;> rfl
  refine ⟨?_, ?_, ?_, by rw [ho, ht]; exact h.hp, h.grew, by rw [h0]; exact h.n0, h.pre⟩
  · cases d <;> exact h.defs
  · rw [hn]
    cases d with
    | none => exact h.size
    | some d => simpa [Act.put] using h.size
  · intro i u hu
    rw [put_get]
    cases d with
    | none =>
      simp only [reduceCtorEq, false_and, if_false]
      exact h.slot i u hu
    | some d =>
      simp only [Act.put] at hu
      by_cases hd : d = i
      · subst hd
        have hlt : d < a.tmps.size := by
          have := (Array.getElem?_eq_some_iff.1 hu).1
          simpa using this
        rw [if_pos ⟨rfl, by rw [← h.size]; exact hlt⟩]
        simp [Array.getElem?_setIfInBounds, hlt] at hu
        subst hu
        exact hv
      · rw [if_neg (by simp [hd])]
        rw [Array.getElem?_setIfInBounds_ne hd] at hu
        exact h.slot i u hu

/-- The same frame, later. -/
theorem Rel.later {W0 : World} {g0 g g' : Gh} {st st' : St} {a : Act} {w w' : World} (h : Rel W0 g0 g st a w) (hl : Later g w g' w') (hs : Steps1 g w g' w') (hn : st'.n = st.n) (hsl : st'.slots = st.slots) (hp : Hp g' st'.objs st'.tags w') (hn0 : st'.n0 = st.n0 := by rfl) : Rel W0 g0 g' st' a w' := by
  refine ⟨h.defs, by rw [hn]; exact h.size, fun d u hu => ?_, hp, h.grew.step hs, by rw [hn0]; exact h.n0, fun i b hi => hl.blks i b (h.pre i b hi)⟩
  have : st'.get d = st.get d := by simp only [St.get, hn, hsl]
  rw [this]
  exact AVal.later hl _ _ (h.slot d u hu)
end Go.Proofs.YtijakklhklcjhaaA
