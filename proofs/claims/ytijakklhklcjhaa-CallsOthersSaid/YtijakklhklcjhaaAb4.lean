/- A call: what the callee hands back, in the caller's numbers. -/
import Derived.Test.YtijakklhklcjhaaAb3
namespace Go.Proofs.YtijakklhklcjhaaA
open Go Go.RowKit
set_option linter.unusedVariables false
set_option linter.unusedSimpArgs false

def bkO : List Nat → Nat → Nat → Nat
  | [], no, i => no + i
  | o :: _, _, 0 => o
  | _ :: m, no, i + 1 => bkO m no i

def bkA (m : List Nat) (no nt : Nat) : A → A
  | .ref o off => .ref (bkO m no o) off
  | .sref o off n => .sref (bkO m no o) off n
  | .own t e sz n f => .own (nt + t) e sz n f
  | .agg cs => .agg (bks m no nt cs)
  | .tup cs => .tup (bks m no nt cs)
  | .fn f cs => .fn f (bks m no nt cs)
  | .dead => .dead
  | .p x => .p x
  | .imm cs off => .imm cs off
where bks (m : List Nat) (no nt : Nat) : List A → List A
  | [] => []
  | x :: xs => bkA m no nt x :: bks m no nt xs

def bkOb (m : List Nat) (no nt : Nat) : Ob → Ob
  | .dead => .dead
  | .cells cs => .cells (bkA.bks m no nt cs)
  | .iter s p => .iter s p

def bkObs (m : List Nat) (no nt : Nat) : List Ob → List Ob
  | [] => []
  | x :: xs => bkOb m no nt x :: bkObs m no nt xs

def upd : List Ob → List Nat → List Ob → List Ob
  | objs, [], [] => objs
  | objs, [], x :: xs => objs ++ x :: xs
  | objs, o :: m, x :: xs => upd (obSet objs o x) m xs
  | objs, _ :: _, [] => objs
def die : List Bool → List (Option Nat) → List Bool
  | ts, [] => ts
  | ts, some t :: tl => die (ts.set t false) tl
  | ts, none :: tl => die ts tl
def tcat (a b : List Bool) : List Bool := match b with
  | [] => a
  | x :: b => a ++ x :: b

theorem tcat_eq (a b : List Bool) : tcat a b = a ++ b := by cases b <;> simp [tcat]
theorem bkO_lt : ∀ {m : List Nat} {no i o : Nat}, m[i]? = some o → bkO m no i = o
  | [], no, i, o, h => by simp at h
  | x :: m, no, 0, o, h => by simpa [bkO] using h
  | x :: m, no, i + 1, o, h => by
    simp only [List.getElem?_cons_succ] at h
    simpa [bkO] using bkO_lt h
theorem bkO_ge : ∀ {m : List Nat} {no i : Nat}, m.length ≤ i → bkO m no i = no + (i - m.length)
  | [], no, i, h => by simp [bkO]
  | x :: m, no, 0, h => by simp at h
  | x :: m, no, i + 1, h => by
    simp only [List.length_cons] at h
    simp only [bkO, List.length_cons]
    rw [bkO_ge (by omega)]
    omega
theorem bkObs_get (m : List Nat) (no nt : Nat) : ∀ (l : List Ob) (i : Nat), (bkObs m no nt l)[i]? = (l[i]?).map (bkOb m no nt)
  | [], i => by simp [bkObs]
  | x :: l, 0 => by simp [bkObs]
  | x :: l, i + 1 => by simp [bkObs, bkObs_get m no nt l i]
theorem bkObs_len (m : List Nat) (no nt : Nat) : ∀ (l : List Ob), (bkObs m no nt l).length = l.length
  | [] => rfl
  | x :: l => by simp [bkObs, bkObs_len m no nt l]
theorem obSet_len (l : List Ob) (i : Nat) (x : Ob) : (obSet l i x).length = l.length := by simp [obSet_eq]

theorem upd_len : ∀ (m : List Nat) (objs xs : List Ob), m.length ≤ xs.length → (upd objs m xs).length = objs.length + (xs.length - m.length)
  | [], objs, [], h => by simp [upd]
  | [], objs, x :: xs, h => by simp [upd]
  | o :: m, objs, [], h => by simp at h
  | o :: m, objs, x :: xs, h => by
    simp only [List.length_cons] at h
    simp only [upd, upd_len m _ xs (by omega), obSet_len, List.length_cons]
    omega
theorem upd_out : ∀ (m : List Nat) (objs xs : List Ob) (i : Nat), m.length ≤ xs.length → i < objs.length → i ∉ m → (upd objs m xs)[i]? = objs[i]?
  | [], objs, [], i, h, hi, hm => by simp [upd]
  | [], objs, x :: xs, i, h, hi, hm => by simp [upd, List.getElem?_append_left hi]
  | o :: m, objs, [], i, h, hi, hm => by simp at h
  | o :: m, objs, x :: xs, i, h, hi, hm => by
    simp only [List.length_cons] at h
    simp only [List.mem_cons, not_or] at hm
    simp only [upd]
    rw [upd_out m _ xs i (by omega) (by rw [obSet_len]; exact hi) hm.2, obSet_eq, List.getElem?_set_ne (Ne.symm hm.1)]
theorem upd_in : ∀ (m : List Nat) (objs xs : List Ob) (j o : Nat), m.length ≤ xs.length → m.Nodup → (∀ o ∈ m, o < objs.length) → m[j]? = some o → (upd objs m xs)[o]? = xs[j]?
  | [], objs, xs, j, o, h, hn, hl, hj => by simp at hj
  | q :: m, objs, [], j, o, h, hn, hl, hj => by simp at h
  | q :: m, objs, x :: xs, j, o, h, hn, hl, hj => by
    simp only [List.length_cons] at h
    simp only [List.nodup_cons] at hn
    simp only [upd]
    cases j with
    | zero =>
      simp only [List.getElem?_cons_zero, Option.some.injEq] at hj
      subst hj
      have hq := hl q (List.mem_cons_self ..)
      rw [upd_out m _ xs q (by omega) (by rw [obSet_len]; exact hq) hn.1, obSet_eq]
      simp [hq]
    | succ j =>
      simp only [List.getElem?_cons_succ] at hj ⊢
      exact upd_in m _ xs j o (by omega) hn.2 (fun o ho => by rw [obSet_len]; exact hl o (List.mem_cons_of_mem _ ho)) hj
theorem upd_new : ∀ (m : List Nat) (objs xs : List Ob) (i : Nat), m.length ≤ xs.length → objs.length ≤ i → (upd objs m xs)[i]? = xs[m.length + (i - objs.length)]?
  | [], objs, [], i, h, hi => by simp [upd, hi]
  | [], objs, x :: xs, i, h, hi => by
    simp only [upd, List.length_nil, Nat.zero_add]
    rw [List.getElem?_append_right hi]
  | o :: m, objs, [], i, h, hi => by simp at h
  | o :: m, objs, x :: xs, i, h, hi => by
    simp only [List.length_cons] at h
    simp only [upd]
    rw [upd_new m _ xs i (by omega) (by rw [obSet_len]; exact hi), obSet_len, List.length_cons, Nat.add_right_comm, List.getElem?_cons_succ]

theorem die_len : ∀ (tl : List (Option Nat)) (ts : List Bool), (die ts tl).length = ts.length
  | [], ts => rfl
  | some t :: tl, ts => by simp [die, die_len tl]
  | none :: tl, ts => by simp [die, die_len tl]
theorem die_get : ∀ (tl : List (Option Nat)) (ts : List Bool) (t : Nat), (die ts tl)[t]? = some true → ts[t]? = some true ∧ some t ∉ tl
  | [], ts, t, h => ⟨h, by simp⟩
  | some q :: tl, ts, t, h => by
    simp only [die] at h
    obtain ⟨h1, h2⟩ := die_get tl _ t h
    by_cases hq : q = t
    · subst hq
      rw [List.getElem?_set_self'] at h1
      cases hz : ts[q]? <;> rw [hz] at h1 <;> simp at h1
    · rw [List.getElem?_set_ne hq] at h1
      exact ⟨h1, by simp [h2, Ne.symm hq]⟩
  | none :: tl, ts, t, h => by
    simp only [die] at h
    obtain ⟨h1, h2⟩ := die_get tl _ t h
    exact ⟨h1, by simp [h2]⟩

/-- Behind a call: the caller's ghost. -/
def Gh.join (g : Gh) (m : List Nat) (tl : List (Option Nat)) (g' : Gh) : Gh where
  ext := g'.ext
  blks := g.blks ++ g'.blks.drop m.length
  tbl := g.tbl ++ g'.tbl
  alive := die g.alive tl ++ g'.alive

mutual
theorem AVal_bk {g g' : Gh} {w' : World} {m : List Nat} {tl : List (Option Nat)} (hb : ∀ (i b : Nat), g'.blks[i]? = some b → (g.join m tl g').blks[bkO m g.blks.length i]? = some b) (ht : g.tbl.length = g.alive.length) :
    ∀ (y : A) (u : Value), AVal g' w' y u → AVal (g.join m tl g') w' (bkA m g.blks.length g.alive.length y) u
  | .dead, u, h => by simp only [bkA, AVal]
  | .p x, u, h => by
    simp only [bkA, AVal] at h ⊢
    exact h
  | .imm cs off, u, h => by
    simp only [bkA, AVal] at h ⊢
    exact h
  | .agg cs, u, h => by
    simp only [bkA, AVal] at h ⊢
    obtain ⟨us, h1, h2⟩ := h
    exact ⟨us, h1, AVals_bk hb ht cs _ h2⟩
  | .tup cs, u, h => by
    simp only [bkA, AVal] at h ⊢
    obtain ⟨us, h1, h2⟩ := h
    exact ⟨us, h1, AVals_bk hb ht cs _ h2⟩
  | .fn f cs, u, h => by
    simp only [bkA, AVal] at h ⊢
    obtain ⟨us, h1, h2⟩ := h
    exact ⟨us, h1, AVals_bk hb ht cs _ h2⟩
  | .ref o off, u, h => by
    simp only [bkA, AVal] at h ⊢
    obtain ⟨b, h1, h2⟩ := h
    exact ⟨b, hb o b h1, h2⟩
  | .sref o off n, u, h => by
    simp only [bkA, AVal] at h ⊢
    obtain ⟨b, c, h1, h2⟩ := h
    exact ⟨b, c, hb o b h1, h2⟩
  | .own t e sz n f, u, h => by
    simp only [bkA, AVal] at h ⊢
    obtain ⟨h1, h2, h3⟩ := h
    have e1 : ∀ s, (g.join m tl g').alive[g.alive.length + t]? = some s ↔ g'.alive[t]? = some s := by
      intro s
      show (die g.alive tl ++ g'.alive)[g.alive.length + t]? = some s ↔ _
      rw [List.getElem?_append_right (by rw [die_len]; omega), die_len, Nat.add_sub_cancel_left]
    refine ⟨?_, h2, fun ha => ?_⟩
    · show _ < (die g.alive tl ++ g'.alive).length
      rw [List.length_append, die_len]
      omega
    · obtain ⟨k1, k2, k3⟩ := h3 ((e1 true).1 ha)
      refine ⟨?_, k2, k3⟩
      show (g.tbl ++ g'.tbl)[g.alive.length + t]? = _
      rw [List.getElem?_append_right (by omega), ht, Nat.add_sub_cancel_left]
      exact k1
theorem AVals_bk {g g' : Gh} {w' : World} {m : List Nat} {tl : List (Option Nat)} (hb : ∀ (i b : Nat), g'.blks[i]? = some b → (g.join m tl g').blks[bkO m g.blks.length i]? = some b) (ht : g.tbl.length = g.alive.length) :
    ∀ (ys : List A) (us : List Value), AVals g' w' ys us → AVals (g.join m tl g') w' (bkA.bks m g.blks.length g.alive.length ys) us
  | [], us, h => by simpa only [bkA.bks, AVals] using h
  | y :: ys, us, h => by
    simp only [bkA.bks, AVals] at h ⊢
    obtain ⟨u, us', h0, h1, h2⟩ := h
    exact ⟨u, us', h0, AVal_bk hb ht y u h1, AVals_bk hb ht ys us' h2⟩
end

structure Called (g : Gh) (w : World) (objs : List Ob) (tags : List Bool) (m : List Nat) (tl : List (Option Nat)) (obs' : List Ob) (tags' : List Bool) (g' : Gh) (w' : World) : Prop where
  later : Later g w (g.join m tl g') w'
  step : Steps1 g w (g.join m tl g') w'
  hp : Hp (g.join m tl g') (upd objs m (bkObs m g.blks.length g.alive.length obs')) (tcat (die tags tl) tags') w'
  val : ∀ (y : A) (u : Value), AVal g' w' y u → AVal (g.join m tl g') w' (bkA m g.blks.length g.alive.length y) u

theorem Hp.called {g g' : Gh} {w w' : World} {objs obs obs' : List Ob} {tags tgs tags' : List Bool} {m : List Nat} {tl : List (Option Nat)} (hp : Hp g objs tags w) (hh : LeHp m tl objs tags obs tgs)
    (hp' : Hp g' obs' tags' w') (hgr : Grew w (g.re m tl) w' g') (hpre : ∀ (i b : Nat), (g.re m tl).blks[i]? = some b → g'.blks[i]? = some b) : Called g w objs tags m tl obs' tags' g' w' := by
  have hg := hh.good hp
  have hml : m.length ≤ g'.blks.length := by
    rcases Nat.eq_zero_or_pos m.length with h0 | h0
    · omega
    · have hlt : m.length - 1 < (g.re m tl).blks.length := by simp [Gh.re]; omega
      have := hpre (m.length - 1) _ (List.getElem?_eq_getElem hlt)
      have := (List.getElem?_eq_some_iff.1 this).1
      omega
  have hpm : ∀ (j o b : Nat), m[j]? = some o → g.blks[o]? = some b → g'.blks[j]? = some b := fun j o b hj ho => hpre j b (by rw [re_blks hg hj]; exact ho)
  have hbl : ∀ (i b : Nat), g.blks[i]? = some b → (g.join m tl g').blks[i]? = some b := by
    intro i b h
    show (g.blks ++ _)[i]? = _
    rw [List.getElem?_append_left (List.getElem?_eq_some_iff.1 h).1]
    exact h
  have hnew : ∀ (i : Nat), g.blks.length ≤ i → (g.join m tl g').blks[i]? = g'.blks[m.length + (i - g.blks.length)]? := by
    intro i h
    show (g.blks ++ g'.blks.drop m.length)[i]? = _
    rw [List.getElem?_append_right h, List.getElem?_drop]
  have hb : ∀ (i b : Nat), g'.blks[i]? = some b → (g.join m tl g').blks[bkO m g.blks.length i]? = some b := by
    intro i b h
    rcases Nat.lt_or_ge i m.length with hi | hi
    · have e := List.getElem?_eq_getElem hi
      rw [bkO_lt e]
      have hlt := hg.m m[i] (List.getElem_mem hi)
      have h2 := hpm i m[i] _ e (List.getElem?_eq_getElem hlt)
      rw [h] at h2
      cases h2
      exact hbl _ _ (List.getElem?_eq_getElem hlt)
    · rw [bkO_ge hi, hnew _ (by omega)]
      rw [show m.length + (g.blks.length + (i - m.length) - g.blks.length) = i by omega]
      exact h
  have htl : g.tbl.length = g.alive.length := hg.len
  have hval : ∀ (y : A) (u : Value), AVal g' w' y u → AVal (g.join m tl g') w' (bkA m g.blks.length g.alive.length y) u := fun y u h => AVal_bk hb htl y u h
  have ro : ∀ b, (g.re m tl).objd b → g.objd b := (re_sub hg).1
  have rt : ∀ b, (g.re m tl).tagged b → g.tagged b := (re_sub hg).2
  -- the tags of the caller's that stay
  have hal : ∀ t, t < g.alive.length → (g.join m tl g').alive[t]? = some true → g.alive[t]? = some true ∧ some t ∉ tl ∧ (g.join m tl g').tbl[t]? = g.tbl[t]? := by
    intro t ht ha
    have ha' : (die g.alive tl ++ g'.alive)[t]? = some true := ha
    rw [List.getElem?_append_left (by rw [die_len]; exact ht)] at ha'
    obtain ⟨h1, h2⟩ := die_get tl _ t ha'
    refine ⟨h1, h2, ?_⟩
    show (g.tbl ++ g'.tbl)[t]? = _
    rw [List.getElem?_append_left (by omega)]
  have hal2 : ∀ t, g.alive.length ≤ t → (g.join m tl g').alive[t]? = g'.alive[t - g.alive.length]? ∧ (g.join m tl g').tbl[t]? = g'.tbl[t - g.alive.length]? := by
    intro t ht
    constructor
    · show (die g.alive tl ++ g'.alive)[t]? = _
      rw [List.getElem?_append_right (by rw [die_len]; exact ht), die_len]
    · show (g.tbl ++ g'.tbl)[t]? = _
      rw [List.getElem?_append_right (by omega), htl]
  have hkeep : ∀ (t b : Nat), g.alive[t]? = some true → some t ∉ tl → g.tbl[t]? = some (some b) → ¬ (g.re m tl).tagged b ∧ ¬ (g.re m tl).objd b ∧ b < w.heap.size := by
    intro t b h1 h2 h3
    obtain ⟨k1, k2⟩ := hp.tgo t b h1 h3
    refine ⟨fun ⟨q, _, hq⟩ => ?_, fun hq => ?_, k2⟩
    · obtain ⟨t', a1, a2, a3⟩ := re_tagged hg hq
      have := hp.tgn t t' b h1 a3 h3 a2
      subst this
      exact h2 (List.mem_of_getElem? a1)
    · obtain ⟨i, hi⟩ := ro b hq
      exact k1 i hi
  have later : Later g w (g.join m tl g') w' := by
    refine ⟨hgr.still, hbl, ?_, ?_⟩
    · show _ ≤ (die g.alive tl ++ g'.alive).length
      rw [List.length_append, die_len]
      omega
    · intro t ht ha
      obtain ⟨h1, h2, h3⟩ := hal t ht ha
      refine ⟨h1, h3, fun b hb => ?_⟩
      obtain ⟨k1, k2, k3⟩ := hkeep t b h1 h2 hb
      exact ⟨hgr.ext b k3 k1, hgr.old b k3 k2 k1⟩
  have jo : ∀ (i b : Nat), (g.join m tl g').blks[i]? = some b → (i < g.blks.length ∧ g.blks[i]? = some b) ∨ (g.blks.length ≤ i ∧ g'.blks[m.length + (i - g.blks.length)]? = some b ∧ w.heap.size ≤ b) := by
    intro i b h
    rcases Nat.lt_or_ge i g.blks.length with hi | hi
    · left
      have : (g.blks ++ g'.blks.drop m.length)[i]? = some b := h
      rw [List.getElem?_append_left hi] at this
      exact ⟨hi, this⟩
    · right
      rw [hnew i hi] at h
      refine ⟨hi, h, ?_⟩
      rcases hgr.blks b ⟨_, h⟩ with ⟨j, hj⟩ | h2
      · have hj' := hpre j b hj
        have := hp'.obn _ _ b h hj'
        have hj2 := (List.getElem?_eq_some_iff.1 hj).1
        simp [Gh.re] at hj2
        omega
      · exact h2
  have jt : ∀ (t b : Nat), (g.join m tl g').alive[t]? = some true → (g.join m tl g').tbl[t]? = some (some b) → (t < g.alive.length ∧ g.alive[t]? = some true ∧ some t ∉ tl ∧ g.tbl[t]? = some (some b)) ∨ (g.alive.length ≤ t ∧ g'.alive[t - g.alive.length]? = some true ∧ g'.tbl[t - g.alive.length]? = some (some b) ∧ ((g.re m tl).tagged b ∨ w.heap.size ≤ b)) := by
    intro t b h1 h2
    rcases Nat.lt_or_ge t g.alive.length with ht | ht
    · left
      obtain ⟨a1, a2, a3⟩ := hal t ht h1
      exact ⟨ht, a1, a2, by rw [← a3]; exact h2⟩
    · right
      obtain ⟨a1, a2⟩ := hal2 t ht
      rw [a1] at h1
      rw [a2] at h2
      exact ⟨ht, h1, h2, hgr.tags b ⟨_, h1, h2⟩⟩
  refine ⟨later, ⟨hgr.os, hgr.tape, hgr.output, hgr.size, fun b hb h1 h2 => hgr.old b hb (fun h => h1 (ro b h)) (fun h => h2 (rt b h)), hgr.still, fun b hb h2 => hgr.ext b hb (fun h => h2 (rt b h)), ?_, ?_⟩, ?_, hval⟩
  · rintro b ⟨i, hi⟩
    rcases jo i b hi with ⟨_, h⟩ | ⟨_, _, h⟩
    · exact .inl ⟨i, h⟩
    · exact .inr h
  · rintro b ⟨t, h1, h2⟩
    rcases jt t b h1 h2 with ⟨_, a1, _, a3⟩ | ⟨_, _, _, h | h⟩
    · exact .inl ⟨t, a1, a3⟩
    · exact .inl (rt b h)
    · exact .inr h
  · have hnb : g'.blks.length = obs'.length := hp'.nob
    have hxl : m.length ≤ (bkObs m g.blks.length g.alive.length obs').length := by rw [bkObs_len]; omega
    refine ⟨?_, ?_, ?_, ?_, ?_, ?_, ?_, ?_, ?_, fun b hb => hp'.new b hb⟩
    · rw [upd_len _ _ _ hxl, bkObs_len]
      show (g.blks ++ g'.blks.drop m.length).length = _
      rw [List.length_append, List.length_drop, hp.nob, hnb]
    · intro i x b hx hbb
      have hbk : ∀ y, ObVal g' w' b y → ObVal (g.join m tl g') w' b (bkOb m g.blks.length g.alive.length y) := by
        intro y hy
        cases y with
        | dead => trivial
        | cells cs =>
          obtain ⟨us, T, k1, k2, k3⟩ := hy
          exact ⟨us, T, k1, AVals_bk hb htl cs _ k2, k3⟩
        | iter s p => exact hy
      rcases jo i b hbb with ⟨hi, hbi⟩ | ⟨hi, hbi, hge⟩
      · by_cases him : i ∈ m
        · obtain ⟨j, hj⟩ := List.getElem?_of_mem him
          rw [upd_in m objs _ j i hxl hh.nd hh.lt hj, bkObs_get] at hx
          cases hy : obs'[j]? with
          | none => rw [hy] at hx; cases hx
          | some y =>
            rw [hy] at hx
            cases hx
            exact hbk y (hp'.ob j y b hy (hpm j i b hj hbi))
        · rw [upd_out m objs _ i hxl (by rw [← hp.nob]; exact hi) him] at hx
          refine ObVal.later later (hgr.old b (hp.oblt i b hbi) (fun hq => ?_) (fun hq => ?_)) (hp.ob i x b hx hbi)
          · obtain ⟨j, o, h1, h2⟩ := re_objd hg hq
            have := hp.obn i o b hbi h2
            subst this
            exact him (List.mem_of_getElem? h1)
          · obtain ⟨t, h1, h2⟩ := rt b hq
            exact (hp.tgo t b h1 h2).1 i hbi
      · rw [upd_new m objs _ i hxl (by rw [← hp.nob]; exact hi), bkObs_get, ← hp.nob] at hx
        cases hy : obs'[m.length + (i - g.blks.length)]? with
        | none => rw [hy] at hx; cases hx
        | some y =>
          rw [hy] at hx
          cases hx
          exact hbk y (hp'.ob _ y b hy hbi)
    · intro i x b hx hlv hbb
      have hlv2 : ∀ y, (bkOb m g.blks.length g.alive.length y).live = true → y.live = true := by intro y; cases y <;> simp [bkOb, Ob.live]
      rcases jo i b hbb with ⟨hi, hbi⟩ | ⟨hi, hbi, hge⟩
      · by_cases him : i ∈ m
        · obtain ⟨j, hj⟩ := List.getElem?_of_mem him
          rw [upd_in m objs _ j i hxl hh.nd hh.lt hj, bkObs_get] at hx
          cases hy : obs'[j]? with
          | none => rw [hy] at hx; cases hx
          | some y =>
            rw [hy] at hx
            cases hx
            exact hp'.obx j y b hy (hlv2 y hlv) (hpm j i b hj hbi)
        · rw [upd_out m objs _ i hxl (by rw [← hp.nob]; exact hi) him] at hx
          show g'.ext b = 0
          rw [hgr.ext b (hp.oblt i b hbi) (fun hq => by obtain ⟨t, h1, h2⟩ := rt b hq; exact (hp.tgo t b h1 h2).1 i hbi)]
          exact hp.obx i x b hx hlv hbi
      · rw [upd_new m objs _ i hxl (by rw [← hp.nob]; exact hi), bkObs_get, ← hp.nob] at hx
        cases hy : obs'[m.length + (i - g.blks.length)]? with
        | none => rw [hy] at hx; cases hx
        | some y =>
          rw [hy] at hx
          cases hx
          exact hp'.obx _ y b hy (hlv2 y hlv) hbi
    · intro i j b hi hj
      rcases jo i b hi with ⟨hi1, hi2⟩ | ⟨hi1, hi2, hi3⟩ <;> rcases jo j b hj with ⟨hj1, hj2⟩ | ⟨hj1, hj2, hj3⟩
      · exact hp.obn i j b hi2 hj2
      · have := hp.oblt i b hi2
        omega
      · have := hp.oblt j b hj2
        omega
      · have := hp'.obn _ _ b hi2 hj2
        omega
    · intro i b hi
      rcases jo i b hi with ⟨hi1, hi2⟩ | ⟨hi1, hi2, hi3⟩
      · have := hp.oblt i b hi2
        have := hgr.size
        omega
      · exact hp'.oblt _ b hi2
    · show die g.alive tl ++ g'.alive = _
      rw [tcat_eq, hp.tag, hp'.tag]
    · rw [tcat_eq]
      show (g.tbl ++ g'.tbl).length = _
      rw [List.length_append, List.length_append, die_len, hp.ntb, hp'.ntb]
    · intro t t' b h1 h1' h2 h2'
      rcases jt t b h1 h2 with ⟨a0, a1, a2, a3⟩ | ⟨a0, a1, a2, a3⟩ <;> rcases jt t' b h1' h2' with ⟨b0, b1, b2, b3⟩ | ⟨b0, b1, b2, b3⟩
      · exact hp.tgn t t' b a1 b1 a3 b3
      · obtain ⟨k1, k2, k3⟩ := hkeep t b a1 a2 a3
        rcases b3 with b3 | b3
        · exact absurd b3 k1
        · omega
      · obtain ⟨k1, k2, k3⟩ := hkeep t' b b1 b2 b3
        rcases a3 with a3 | a3
        · exact absurd a3 k1
        · omega
      · have := hp'.tgn _ _ b a1 b1 a2 b2
        omega
    · intro t b h1 h2
      rcases jt t b h1 h2 with ⟨a0, a1, a2, a3⟩ | ⟨a0, a1, a2, a3⟩
      · obtain ⟨k1, k2⟩ := hp.tgo t b a1 a3
        refine ⟨fun i hi => ?_, Nat.lt_of_lt_of_le k2 hgr.size⟩
        rcases jo i b hi with ⟨hi1, hi2⟩ | ⟨hi1, hi2, hi3⟩
        · exact k1 i hi2
        · omega
      · obtain ⟨k1, k2⟩ := hp'.tgo _ b a1 a2
        refine ⟨fun i hi => ?_, k2⟩
        rcases jo i b hi with ⟨hi1, hi2⟩ | ⟨hi1, hi2, hi3⟩
        · rcases a3 with a3 | a3
          · obtain ⟨q, q1, q2⟩ := rt b a3
            exact (hp.tgo q b q1 q2).1 i hi2
          · have := hp.oblt i b hi2
            omega
        · exact k1 _ hi2
end Go.Proofs.YtijakklhklcjhaaA
