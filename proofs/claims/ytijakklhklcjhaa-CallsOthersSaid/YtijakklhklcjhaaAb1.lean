/- Abstract values of a walk: data that stays, frames' values, objects; how they stand to the machine's values; that they stay through what is written elsewhere. -/
import Derived.Below
import Derived.Laws.AppendOwn
import Derived.Laws.OwnMore
import Derived.Deep.MidRow
import Derived.WalkKit
import Derived.KernelRfl
namespace Go.Proofs.YtijakklhklcjhaaA
open Go Go.RowKit
set_option linter.unusedVariables false
set_option linter.unusedSimpArgs false

/-- Data that nobody writes any more: a value without memory, or a slice: how many elements, and each one's cells. -/
inductive D where
  | v (x : Value)
  | sl (sz n : Nat) (f : Nat → List D)

/-- A frame's values. -/
inductive A where
  | dead
  | p (x : D)
  | agg (cs : List A)
  | tup (vs : List A)
  | ref (o off : Nat)
  | imm (cs : List D) (off : Nat)
  | own (t e sz n : Nat) (f : Nat → List D)
  | sref (o off len : Nat)
  | fn (f : FuncId) (caps : List A)

/-- What stands in memory of the frame's own. -/
inductive Ob where
  | dead
  | cells (cs : List A)
  | iter (s : ByteArray) (pos : Nat)

structure Gh where
  ext : Nat → Nat
  blks : List Nat
  tbl : List (Option Nat)
  alive : List Bool

/-- A slice's header u: n elements of sz cells, whose cells are us; none of them is written any more. -/
def SlAt (ext : Nat → Nat) (w : World) (u : Value) (n sz : Nat) (us : List Value) : Prop :=
  us.length = n * sz ∧ ((u = .slice none 0 0 ∧ n = 0) ∨ ∃ b o c, u = .slice (some ⟨b, o, none⟩) n c ∧ n ≤ c ∧ o + n * sz ≤ ext b ∧ ∀ i x, us[i]? = some x → w.cell? ⟨b, o + i, none⟩ = some x)

mutual
def DVal (ext : Nat → Nat) (w : World) : D → Value → Prop
  | .v x, u => u = x
  | .sl sz n f, u => ∃ us, SlAt ext w u n sz us ∧ ∀ i, i < n → (f i).length = sz ∧ DCells ext w (f i) ((us.drop (i * sz)).take sz)
def DCells (ext : Nat → Nat) (w : World) : List D → List Value → Prop
  | [], us => us = []
  | x :: xs, us => ∃ u us', us = u :: us' ∧ u.oneCell' = true ∧ DVal ext w x u ∧ DCells ext w xs us'
end

/-- What the owner of a row may do: u's block is tag t's own, and what stands in it ends where nobody reads any more. -/
def OwnAt (g : Gh) (w : World) (t e sz n : Nat) (u : Value) : Prop :=
  g.alive[t]? = some true → g.tbl[t]? = some u.ownBlock ∧ (∃ xs, w.ownsRow 0 e sz u n xs) ∧ ∀ b, u.ownBlock = some b → g.ext b = n * sz

mutual
def AVal (g : Gh) (w : World) : A → Value → Prop
  | .dead, _ => True
  | .p x, u => DVal g.ext w x u
  | .agg cs, u => ∃ us, u = .agg us ∧ AVals g w cs us.toList
  | .tup vs, u => ∃ us, u = .tuple us ∧ AVals g w vs us.toList
  | .ref o off, u => ∃ b, g.blks[o]? = some b ∧ u = .pointer (some ⟨b, off, none⟩)
  | .imm cs off, u => ∃ b o us, u = .pointer (some ⟨b, o + off, none⟩) ∧ o + cs.length ≤ g.ext b ∧ DCells g.ext w cs us ∧ ∀ i x, us[i]? = some x → w.cell? ⟨b, o + i, none⟩ = some x
  | .own t e sz n f, u => t < g.alive.length ∧ DVal g.ext w (.sl sz n f) u ∧ OwnAt g w t e sz n u
  | .sref o off len, u => ∃ b c, g.blks[o]? = some b ∧ u = .slice (some ⟨b, off, none⟩) len c ∧ len ≤ c
  | .fn f caps, u => ∃ us, u = .func (.func f) #[] us ∧ AVals g w caps us.toList
def AVals (g : Gh) (w : World) : List A → List Value → Prop
  | [], us => us = []
  | x :: xs, us => ∃ u us', us = u :: us' ∧ AVal g w x u ∧ AVals g w xs us'
end

def allOne (us : List Value) : Prop := ∀ u ∈ us, u.oneCell' = true

def ObVal (g : Gh) (w : World) (b : Nat) : Ob → Prop
  | .dead => True
  | .cells cs => ∃ us T, w.heap[b]? = some (.cells us T (0, 0)) ∧ AVals g w cs us.toList ∧ allOne us.toList
  | .iter s pos => w.heap[b]? = some (.stringIter s pos)

def Ob.live : Ob → Bool
  | .dead => false
  | _ => true

/-! ### what stays -/

/-- From a world to a later one: extents grow, what is within them reads as it did. -/
structure Still (ext : Nat → Nat) (w : World) (ext' : Nat → Nat) (w' : World) : Prop where
  le : ∀ b, ext b ≤ ext' b
  cell : ∀ b i, i < ext b → w'.cell? ⟨b, i, none⟩ = w.cell? ⟨b, i, none⟩

theorem Still.refl (ext : Nat → Nat) (w : World) : Still ext w ext w := ⟨fun _ => Nat.le_refl _, fun _ _ _ => rfl⟩
theorem Still.trans {e1 e2 e3 : Nat → Nat} {w1 w2 w3 : World} (h : Still e1 w1 e2 w2) (k : Still e2 w2 e3 w3) : Still e1 w1 e3 w3 :=
  ⟨fun b => Nat.le_trans (h.le b) (k.le b), fun b i hi => (k.cell b i (Nat.lt_of_lt_of_le hi (h.le b))).trans (h.cell b i hi)⟩

theorem SlAt.still {ext ext' : Nat → Nat} {w w' : World} {u : Value} {n sz : Nat} {us : List Value} (h : SlAt ext w u n sz us) (hs : Still ext w ext' w') : SlAt ext' w' u n sz us := by
  obtain ⟨h0, h⟩ := h
  refine ⟨h0, ?_⟩
  rcases h with h | ⟨b, o, c, h1, h2, h3, h4⟩
  · exact .inl h
  · refine .inr ⟨b, o, c, h1, h2, Nat.le_trans h3 (hs.le b), fun i x hx => ?_⟩
    have hi : i < n * sz := by rw [← h0]; exact (List.getElem?_eq_some_iff.1 hx).1
    rw [hs.cell b (o + i) (by omega)]
    exact h4 i x hx

mutual
theorem DVal.still {ext ext' : Nat → Nat} {w w' : World} (hs : Still ext w ext' w') : ∀ (x : D) (u : Value), DVal ext w x u → DVal ext' w' x u
  | .v x, u, h => by simpa only [DVal] using h
  | .sl sz n f, u, h => by
    simp only [DVal] at h ⊢
    obtain ⟨us, h1, h2⟩ := h
    exact ⟨us, h1.still hs, fun i hi => ⟨(h2 i hi).1, DCells.still hs (f i) _ (h2 i hi).2⟩⟩
theorem DCells.still {ext ext' : Nat → Nat} {w w' : World} (hs : Still ext w ext' w') : ∀ (xs : List D) (us : List Value), DCells ext w xs us → DCells ext' w' xs us
  | [], us, h => by simpa only [DCells] using h
  | x :: xs, us, h => by
    simp only [DCells] at h ⊢
    obtain ⟨u, us', h0, h1, h2, h3⟩ := h
    exact ⟨u, us', h0, h1, DVal.still hs x u h2, DCells.still hs xs us' h3⟩
end

theorem DCells_length {ext : Nat → Nat} {w : World} : ∀ {xs : List D} {us : List Value}, DCells ext w xs us → us.length = xs.length
  | [], us, h => by
    simp only [DCells] at h
    simp [h]
  | x :: xs, us, h => by
    simp only [DCells] at h
    obtain ⟨u, us', rfl, _, _, h2⟩ := h
    simp [DCells_length h2]

theorem DCells_get {ext : Nat → Nat} {w : World} : ∀ {xs : List D} {us : List Value} {i : Nat} {x : D}, DCells ext w xs us → xs[i]? = some x → ∃ u, us[i]? = some u ∧ u.oneCell' = true ∧ DVal ext w x u
  | [], us, i, x, h, hx => by simp at hx
  | y :: xs, us, i, x, h, hx => by
    simp only [DCells] at h
    obtain ⟨u, us', rfl, h0, h1, h2⟩ := h
    cases i with
    | zero =>
      simp only [List.getElem?_cons_zero, Option.some.injEq] at hx
      subst hx
      exact ⟨u, rfl, h0, h1⟩
    | succ i =>
      simp only [List.getElem?_cons_succ] at hx ⊢
      exact DCells_get h2 hx

theorem DCells_one {ext : Nat → Nat} {w : World} : ∀ {xs : List D} {us : List Value}, DCells ext w xs us → ∀ u ∈ us, u.oneCell' = true
  | [], us, h => by
    simp only [DCells] at h
    simp [h]
  | x :: xs, us, h => by
    simp only [DCells] at h
    obtain ⟨u, us', rfl, h1, _, h2⟩ := h
    intro v hv
    rcases List.mem_cons.1 hv with rfl | hv
    · exact h1
    · exact DCells_one h2 v hv

/-- From a ghost to a later one. -/
structure Later (g : Gh) (w : World) (g' : Gh) (w' : World) : Prop where
  still : Still g.ext w g'.ext w'
  blks : ∀ (i b : Nat), g.blks[i]? = some b → g'.blks[i]? = some b
  tags : g.alive.length ≤ g'.alive.length
  own : ∀ (t : Nat), t < g.alive.length → g'.alive[t]? = some true → g.alive[t]? = some true ∧ g'.tbl[t]? = g.tbl[t]? ∧ ∀ b, g.tbl[t]? = some (some b) → g'.ext b = g.ext b ∧ w'.heap[b]? = w.heap[b]?

theorem own_move' {w w1 : World} {base : Nat} {e : TypeId} {size n : Nat} {v : Value} {xs : List Value} (h : w.ownsRow base e size v n xs) (hm : ∀ k, v.ownBlock = some k → w1.heap[k]? = w.heap[k]?) : w1.ownsRow base e size v n xs := by
  obtain ⟨h1, h2⟩ := h
  refine ⟨h1, ?_⟩
  rcases h2 with h2 | ⟨g, cap, cur, rfl, hg, hh, r⟩
  · exact .inl h2
  · exact .inr ⟨g, cap, cur, rfl, hg, (hm g (by simp [Value.ownBlock])).trans hh, r⟩

theorem OwnAt.later {g g' : Gh} {w w' : World} {t e sz n : Nat} {u : Value} (ht : t < g.alive.length) (h : OwnAt g w t e sz n u) (hl : Later g w g' w') : OwnAt g' w' t e sz n u := by
  intro ha
  obtain ⟨h1, h2, h3⟩ := hl.own t ht ha
  obtain ⟨k1, ⟨xs, k2⟩, k3⟩ := h h1
  refine ⟨h2.trans k1, ⟨xs, own_move' k2 fun k hk => ?_⟩, fun b hb => ?_⟩
  · exact (h3 k (by rw [k1, hk])).2
  · rw [(h3 b (by rw [k1, hb])).1]
    exact k3 b hb

mutual
theorem AVal.later {g g' : Gh} {w w' : World} (hl : Later g w g' w') : ∀ (x : A) (u : Value), AVal g w x u → AVal g' w' x u
  | .dead, u, h => by simp only [AVal]
  | .p x, u, h => by
    simp only [AVal] at h ⊢
    exact DVal.still hl.still x u h
  | .agg cs, u, h => by
    simp only [AVal] at h ⊢
    obtain ⟨us, h1, h2⟩ := h
    exact ⟨us, h1, AVals.later hl cs _ h2⟩
  | .tup cs, u, h => by
    simp only [AVal] at h ⊢
    obtain ⟨us, h1, h2⟩ := h
    exact ⟨us, h1, AVals.later hl cs _ h2⟩
  | .ref o off, u, h => by
    simp only [AVal] at h ⊢
    obtain ⟨b, h1, h2⟩ := h
    exact ⟨b, hl.blks o b h1, h2⟩
  | .imm cs off, u, h => by
    simp only [AVal] at h ⊢
    obtain ⟨b, o, us, h1, h2, h3, h4⟩ := h
    refine ⟨b, o, us, h1, Nat.le_trans h2 (hl.still.le b), DCells.still hl.still cs us h3, fun i x hx => ?_⟩
    have hlen : us.length = cs.length := DCells_length h3
    have hi : i < us.length := (List.getElem?_eq_some_iff.1 hx).1
    rw [hl.still.cell b (o + i) (by omega)]
    exact h4 i x hx
  | .own t e sz n f, u, h => by
    simp only [AVal] at h ⊢
    obtain ⟨h1, h2, h3⟩ := h
    exact ⟨Nat.lt_of_lt_of_le h1 hl.tags, DVal.still hl.still _ u h2, h3.later h1 hl⟩
  | .sref o off len, u, h => by
    simp only [AVal] at h ⊢
    obtain ⟨b, c, h1, h2⟩ := h
    exact ⟨b, c, hl.blks o b h1, h2⟩
  | .fn f caps, u, h => by
    simp only [AVal] at h ⊢
    obtain ⟨us, h1, h2⟩ := h
    exact ⟨us, h1, AVals.later hl caps _ h2⟩
theorem AVals.later {g g' : Gh} {w w' : World} (hl : Later g w g' w') : ∀ (xs : List A) (us : List Value), AVals g w xs us → AVals g' w' xs us
  | [], us, h => by simpa only [AVals] using h
  | x :: xs, us, h => by
    simp only [AVals] at h ⊢
    obtain ⟨u, us', h0, h1, h2⟩ := h
    exact ⟨u, us', h0, AVal.later hl x u h1, AVals.later hl xs us' h2⟩
end

theorem AVals.length {g : Gh} {w : World} : ∀ {xs : List A} {us : List Value}, AVals g w xs us → us.length = xs.length
  | [], us, h => by
    simp only [AVals] at h
    simp [h]
  | x :: xs, us, h => by
    simp only [AVals] at h
    obtain ⟨u, us', rfl, _, h2⟩ := h
    simp [AVals.length h2]

theorem AVals.get {g : Gh} {w : World} : ∀ {xs : List A} {us : List Value} {i : Nat} {x : A}, AVals g w xs us → xs[i]? = some x → ∃ u, us[i]? = some u ∧ AVal g w x u
  | [], us, i, x, h, hx => by simp at hx
  | y :: xs, us, i, x, h, hx => by
    simp only [AVals] at h
    obtain ⟨u, us', rfl, h1, h2⟩ := h
    cases i with
    | zero =>
      simp only [List.getElem?_cons_zero, Option.some.injEq] at hx
      subst hx
      exact ⟨u, rfl, h1⟩
    | succ i =>
      simp only [List.getElem?_cons_succ] at hx ⊢
      exact AVals.get h2 hx

theorem AVals.append {g : Gh} {w : World} : ∀ {xs ys : List A} {us vs : List Value}, AVals g w xs us → AVals g w ys vs → AVals g w (xs ++ ys) (us ++ vs)
  | [], ys, us, vs, h, k => by
    simp only [AVals] at h
    subst h
    exact k
  | x :: xs, ys, us, vs, h, k => by
    simp only [AVals] at h
    obtain ⟨u, us', rfl, h1, h2⟩ := h
    simp only [List.cons_append, AVals]
    exact ⟨u, us' ++ vs, rfl, h1, h2.append k⟩

theorem AVals.take {g : Gh} {w : World} : ∀ {xs : List A} {us : List Value} (n : Nat), AVals g w xs us → AVals g w (xs.take n) (us.take n)
  | [], us, n, h => by
    simp only [AVals] at h
    subst h
    simp [AVals]
  | x :: xs, us, 0, h => by simp [AVals]
  | x :: xs, us, n + 1, h => by
    simp only [AVals] at h
    obtain ⟨u, us', rfl, h1, h2⟩ := h
    simp only [List.take_succ_cons, AVals]
    exact ⟨u, us'.take n, rfl, h1, h2.take n⟩

theorem AVals.drop {g : Gh} {w : World} : ∀ {xs : List A} {us : List Value} (n : Nat), AVals g w xs us → AVals g w (xs.drop n) (us.drop n)
  | [], us, n, h => by
    simp only [AVals] at h
    subst h
    simp [AVals]
  | x :: xs, us, 0, h => h
  | x :: xs, us, n + 1, h => by
    simp only [AVals] at h
    obtain ⟨u, us', rfl, h1, h2⟩ := h
    simp only [List.drop_succ_cons]
    exact h2.drop n

theorem AVals.set {g : Gh} {w : World} : ∀ {xs : List A} {us : List Value} (n : Nat) {x : A} {u : Value}, AVals g w xs us → AVal g w x u → AVals g w (xs.set n x) (us.set n u)
  | [], us, n, x, u, h, k => by
    simp only [AVals] at h
    subst h
    simp [AVals]
  | y :: xs, us, 0, x, u, h, k => by
    simp only [AVals] at h
    obtain ⟨u0, us', rfl, h1, h2⟩ := h
    simp only [List.set_cons_zero, AVals]
    exact ⟨u, us', rfl, k, h2⟩
  | y :: xs, us, n + 1, x, u, h, k => by
    simp only [AVals] at h
    obtain ⟨u0, us', rfl, h1, h2⟩ := h
    simp only [List.set_cons_succ, AVals]
    exact ⟨u0, us'.set n u, rfl, h1, h2.set n k⟩

theorem ObVal.later {g g' : Gh} {w w' : World} (hl : Later g w g' w') {b : Nat} (hb : w'.heap[b]? = w.heap[b]?) : ∀ {o : Ob}, ObVal g w b o → ObVal g' w' b o
  | .dead, h => trivial
  | .cells cs, h => by
    obtain ⟨us, T, h1, h2, h3⟩ := h
    exact ⟨us, T, hb.trans h1, AVals.later hl _ _ h2, h3⟩
  | .iter s pos, h => by
    show w'.heap[b]? = _
    rw [hb]
    exact h

theorem Later.refl (g : Gh) (w : World) : Later g w g w := ⟨Still.refl _ _, fun _ _ h => h, Nat.le_refl _, fun _ _ h => ⟨h, rfl, fun _ _ => ⟨rfl, rfl⟩⟩⟩
end Go.Proofs.YtijakklhklcjhaaA
