/- Steps of a walk over abstract values, and contracts of functions. -/
import Derived.Test.YtijakklhklcjhaaAb11
namespace Go.Proofs.YtijakklhklcjhaaA
open Go Go.RowKit
set_option linter.unusedVariables false
set_option linter.unusedSimpArgs false

section
variable {P : Program} {T : TT} {W0 : World} {g0 g : Gh} {st : St} {a : Act} {w : World} {o : Oper}

/-- A new object. -/
theorem Rel.new (h : Rel W0 g0 g st a w) {cs : List A} {us : Array Value} {U : Nat} (h1 : AVals g w cs us.toList) (h2 : allOne us.toList) :
    Rel W0 g0 { g with blks := g.blks ++ [w.heap.size] } { st with objs := st.objs ++ [.cells cs] } a (w.alloc (.cells us U)) ∧ AVal { g with blks := g.blks ++ [w.heap.size] } (w.alloc (.cells us U)) (.ref st.objs.length 0) (.pointer (some ⟨w.heap.size, 0, none⟩)) := by
  have hold : ∀ b, b < w.heap.size → (w.alloc (.cells us U)).heap[b]? = w.heap[b]? := fun b hb => heap_alloc_old w _ hb
  have hcell : ∀ b i, i < g.ext b → (w.alloc (.cells us U)).cell? ⟨b, i, none⟩ = w.cell? ⟨b, i, none⟩ := by
    intro b i hi
    have hb : b < w.heap.size := by
      rcases Nat.lt_or_ge b w.heap.size with hb | hb
      · exact hb
      · rw [h.hp.new b hb] at hi
        omega
    exact World.cell?_of_block (hold b hb)
  have hsz : (w.alloc (.cells us U)).heap.size = w.heap.size + 1 := by simp
  have hget : ∀ (i b : Nat), (g.blks ++ [w.heap.size])[i]? = some b → (g.blks[i]? = some b) ∨ (i = g.blks.length ∧ b = w.heap.size) := by
    intro i b hi
    rcases Nat.lt_or_ge i g.blks.length with hl | hl
    · rw [List.getElem?_append_left hl] at hi
      exact .inl hi
    · rw [List.getElem?_append_right hl] at hi
      rcases Nat.eq_zero_or_pos (i - g.blks.length) with h0 | h0
      · rw [h0] at hi
        simp at hi
        exact .inr ⟨by omega, hi.symm⟩
      · rw [List.getElem?_eq_none (by simp; omega)] at hi
        cases hi
  have later : Later g w { g with blks := g.blks ++ [w.heap.size] } (w.alloc (.cells us U)) := by
    refine ⟨⟨fun _ => Nat.le_refl _, hcell⟩, fun i b hi => ?_, Nat.le_refl _, fun t ht ha => ⟨ha, rfl, fun b hb => ⟨rfl, hold b (h.hp.tgo t b ha hb).2⟩⟩⟩
    show (g.blks ++ [w.heap.size])[i]? = some b
    rw [List.getElem?_append_left (List.getElem?_eq_some_iff.1 hi).1]
    exact hi
  have hobj : ∀ (i : Nat) (x : Ob), (st.objs ++ [Ob.cells cs])[i]? = some x → st.objs[i]? = some x ∨ (i = st.objs.length ∧ x = .cells cs) := by
    intro i x hi
    rcases Nat.lt_or_ge i st.objs.length with hl | hl
    · rw [List.getElem?_append_left hl] at hi
      exact .inl hi
    · rw [List.getElem?_append_right hl] at hi
      rcases Nat.eq_zero_or_pos (i - st.objs.length) with h0 | h0
      · rw [h0] at hi
        simp at hi
        exact .inr ⟨by omega, hi.symm⟩
      · rw [List.getElem?_eq_none (by simp; omega)] at hi
        cases hi
  have lt1 : ∀ (i : Nat) (x : Ob), st.objs[i]? = some x → i < st.objs.length := fun i x hi => (List.getElem?_eq_some_iff.1 hi).1
  have lt2 : ∀ (i b : Nat), g.blks[i]? = some b → i < g.blks.length := fun i x hi => (List.getElem?_eq_some_iff.1 hi).1
  refine ⟨h.later later ⟨rfl, rfl, rfl, by omega, fun b hb _ _ => hold b hb, later.still, fun _ _ _ => rfl, ?_, fun b ⟨t, k1, k2⟩ => .inl ⟨t, k1, k2⟩⟩ rfl rfl ?_, ?_⟩
  · rintro b ⟨i, hi⟩
    rcases hget i b hi with hi | ⟨_, rfl⟩
    · exact .inl ⟨i, hi⟩
    · exact .inr (Nat.le_refl _)
  · refine ⟨by simp [h.hp.nob], ?_, ?_, ?_, ?_, h.hp.tag, h.hp.ntb, h.hp.tgn, ?_, fun b hb => h.hp.new b (by omega)⟩
    · intro i x b hx hb
      rcases hobj i x hx with hx | ⟨h0, rfl⟩ <;> rcases hget i b hb with hb | ⟨k0, rfl⟩
      · exact (h.hp.ob i x b hx hb).later later (hold b (h.hp.oblt i b hb))
      · have := lt1 i x hx
        rw [← h.hp.nob] at this
        omega
      · have := lt2 i b hb
        rw [h.hp.nob] at this
        omega
      · exact ⟨us, U, heap_alloc_new w _, AVals.later later _ _ h1, h2⟩
    · intro i x b hx hl hb
      rcases hobj i x hx with hx | ⟨h0, rfl⟩ <;> rcases hget i b hb with hb | ⟨k0, rfl⟩
      · exact h.hp.obx i x b hx hl hb
      · exact h.hp.new _ (Nat.le_refl _)
      · have := lt2 i b hb
        rw [h.hp.nob] at this
        omega
      · exact h.hp.new _ (Nat.le_refl _)
    · intro i j b hi hj
      rcases hget i b hi with hi | ⟨i0, i1⟩ <;> rcases hget j b hj with hj | ⟨j0, j1⟩
      · exact h.hp.obn i j b hi hj
      · have := h.hp.oblt i b hi
        omega
      · have := h.hp.oblt j b hj
        omega
      · omega
    · intro i b hi
      rcases hget i b hi with hi | ⟨i0, i1⟩
      · have := h.hp.oblt i b hi
        omega
      · omega
    · intro t b k1 k2
      obtain ⟨k3, k4⟩ := h.hp.tgo t b k1 k2
      refine ⟨fun i hi => ?_, by omega⟩
      rcases hget i b hi with hi | ⟨i0, i1⟩
      · exact k3 i hi
      · omega
  · simp only [AVal]
    refine ⟨w.heap.size, ?_, rfl⟩
    show (g.blks ++ [w.heap.size])[st.objs.length]? = _
    rw [← h.hp.nob, List.getElem?_append_right (Nat.le_refl _), Nat.sub_self]
    rfl

/-- A store. -/
theorem Rel.set (h : Rel W0 g0 g st a w) {i b U : Nat} {cs : List A} {us : Array Value} {w' : World} (hb : g.blks[i]? = some b) (hlive : (obGet st.objs i).live = true) (hh : w'.heap[b]? = some (.cells us U (0, 0))) (h1 : AVals g w cs us.toList) (h2 : allOne us.toList)
    (e1 : w'.os = w.os) (e2 : w'.tape = w.tape) (e3 : w'.output = w.output) (e4 : w'.heap.size = w.heap.size) (hk : ∀ k, k ≠ b → w'.heap[k]? = w.heap[k]?) : Rel W0 g0 g { st with objs := obSet st.objs i (.cells cs) } a w' := by
  have hi := obGet_live (o := obGet st.objs i) rfl hlive
  have hx0 : g.ext b = 0 := h.hp.obx i _ b hi hlive hb
  have hcell : ∀ b' j, j < g.ext b' → w'.cell? ⟨b', j, none⟩ = w.cell? ⟨b', j, none⟩ := by
    intro b' j hj
    refine World.cell?_of_block (hk b' ?_)
    rintro rfl
    omega
  have later : Later g w g w' := by
    refine ⟨⟨fun _ => Nat.le_refl _, hcell⟩, fun _ _ h => h, Nat.le_refl _, fun t ht ha => ⟨ha, rfl, fun b' hb' => ⟨rfl, hk b' ?_⟩⟩⟩
    rintro rfl
    exact (h.hp.tgo t b' ha hb').1 i hb
  refine h.later later ⟨e1, e2, e3, Nat.le_of_eq e4.symm, fun b' hb' n1 n2 => hk b' ?_, later.still, fun _ _ _ => rfl, fun _ k => .inl k, fun _ k => .inl k⟩ rfl rfl ?_
  · rintro rfl
    exact n1 ⟨i, hb⟩
  · rw [obSet_eq]
    refine ⟨by simp [h.hp.nob], ?_, ?_, h.hp.obn, fun j c hj => by rw [e4]; exact h.hp.oblt j c hj, h.hp.tag, h.hp.ntb, h.hp.tgn, fun t c k1 k2 => by rw [e4]; exact h.hp.tgo t c k1 k2, fun c hc => h.hp.new c (by omega)⟩
    · intro j x c hx hc
      by_cases hj : i = j
      · subst hj
        rw [hb] at hc
        cases hc
        have hlt := (List.getElem?_eq_some_iff.1 hi).1
        rw [List.getElem?_set_self hlt] at hx
        cases hx
        exact ⟨us, U, hh, AVals.later later _ _ h1, h2⟩
      · rw [List.getElem?_set_ne hj] at hx
        refine (h.hp.ob j x c hx hc).later later (hk c ?_)
        rintro rfl
        exact hj (h.hp.obn i j c hb hc)
    · intro j x c hx hl hc
      by_cases hj : i = j
      · subst hj
        rw [hb] at hc
        cases hc
        exact hx0
      · rw [List.getElem?_set_ne hj] at hx
        exact h.hp.obx j x c hx hl hc

def killT (ts : List Bool) : Option Nat → List Bool
  | some t => ts.set t false
  | none => ts
theorem killT_len (ts : List Bool) (k : Option Nat) : (killT ts k).length = ts.length := by cases k <;> simp [killT]
theorem killT_get {ts : List Bool} {k : Option Nat} {t : Nat} (h : (killT ts k)[t]? = some true) : ts[t]? = some true ∧ k ≠ some t := by
  cases k with
  | none => exact ⟨h, by simp⟩
  | some q =>
    simp only [killT] at h
    by_cases hq : q = t
    · subst hq
      rw [List.getElem?_set_self'] at h
      cases hz : ts[q]? <;> rw [hz] at h <;> simp at h
    · rw [List.getElem?_set_ne hq] at h
      exact ⟨h, by simp [hq]⟩

/-- A row of the call's own, new or grown. -/
theorem Rel.row (h : Rel W0 g0 g st a w) {kill : Option Nat} {e sz n : Nat} {f : Nat → List D} {v : Value} {w' : World} {us : List Value}
    (ho : w'.ownsRow 0 e sz v n us) (hp : ∀ i, i < n → (f i).length = sz ∧ DCells g.ext w (f i) ((us.drop (i * sz)).take sz))
    (hb : ∀ b, v.ownBlock = some b → b < w.heap.size → ∃ t n0, kill = some t ∧ g.tbl[t]? = some (some b) ∧ g.ext b = n0 * sz ∧ n0 ≤ n ∧ ∀ i, i < n0 * sz → w'.cell? ⟨b, i, none⟩ = w.cell? ⟨b, i, none⟩)
    (hkl : ∀ t, kill = some t → g.alive[t]? = some true)
    (e1 : w'.os = w.os) (e2 : w'.tape = w.tape) (e3 : w'.output = w.output) (e4 : w.heap.size ≤ w'.heap.size) (hk : ∀ k, k < w.heap.size → some k ≠ v.ownBlock → w'.heap[k]? = w.heap[k]?) :
    ∃ g', Rel W0 g0 g' { st with tags := killT st.tags kill ++ [true] } a w' ∧ AVal g' w' (.own st.tags.length e sz n f) v := by
  let ext' : Nat → Nat := fun b => if v.ownBlock = some b then n * sz else g.ext b
  let g' : Gh := { ext := ext', blks := g.blks, tbl := g.tbl ++ [v.ownBlock], alive := killT g.alive kill ++ [true] }
  have hnt : g.tbl.length = g.alive.length := by rw [h.hp.ntb, h.hp.tag]
  -- the row's own block
  have own_tag : ∀ b, v.ownBlock = some b → b < w.heap.size → ∃ t, kill = some t ∧ g.alive[t]? = some true ∧ g.tbl[t]? = some (some b) := by
    intro b hv hlt
    obtain ⟨t, n0, k1, k2, _⟩ := hb b hv hlt
    exact ⟨t, k1, hkl t k1, k2⟩
  have own_lt' : ∀ b, v.ownBlock = some b → b < w'.heap.size := by
    intro b hv
    rcases ho.2 with ⟨rfl, _⟩ | ⟨g1, cap, cur, rfl, _, hg, _⟩
    · simp [Value.ownBlock] at hv
    · simp only [Value.ownBlock, Option.some.injEq] at hv
      subst hv
      exact (Array.getElem?_eq_some_iff.1 hg).1
  have still : Still g.ext w ext' w' := by
    refine ⟨fun b => ?_, fun b i hi => ?_⟩
    · show g.ext b ≤ if v.ownBlock = some b then n * sz else g.ext b
      split
      · rename_i hv
        rcases Nat.lt_or_ge b w.heap.size with hlt | hge
        · obtain ⟨t, n0, _, _, k3, k4, _⟩ := hb b hv hlt
          rw [k3]
          exact Nat.mul_le_mul_right _ k4
        · rw [h.hp.new b hge]
          exact Nat.zero_le _
      · exact Nat.le_refl _
    · have hlt : b < w.heap.size := by
        rcases Nat.lt_or_ge b w.heap.size with hlt | hge
        · exact hlt
        · rw [h.hp.new b hge] at hi
          omega
      by_cases hv : v.ownBlock = some b
      · obtain ⟨t, n0, _, _, k3, _, k5⟩ := hb b hv hlt
        exact k5 i (by omega)
      · exact World.cell?_of_block (hk b hlt (fun e => hv e.symm))
  have al : ∀ t, t < g.alive.length → g'.alive[t]? = some true → g.alive[t]? = some true ∧ kill ≠ some t ∧ g'.tbl[t]? = g.tbl[t]? := by
    intro t ht ha
    have ha' : (killT g.alive kill ++ [true])[t]? = some true := ha
    rw [List.getElem?_append_left (by rw [killT_len]; exact ht)] at ha'
    obtain ⟨k1, k2⟩ := killT_get ha'
    refine ⟨k1, k2, ?_⟩
    show (g.tbl ++ [v.ownBlock])[t]? = _
    rw [List.getElem?_append_left (by omega)]
  have apart : ∀ (t b : Nat), g.alive[t]? = some true → kill ≠ some t → g.tbl[t]? = some (some b) → v.ownBlock ≠ some b := by
    intro t b k1 k2 k3 hv
    obtain ⟨t', q1, q2, q3⟩ := own_tag b hv (h.hp.tgo t b k1 k3).2
    have := h.hp.tgn t t' b k1 q2 k3 q3
    subst this
    exact k2 q1
  have later : Later g w g' w' := by
    refine ⟨still, fun _ _ h => h, by show _ ≤ (killT g.alive kill ++ [true]).length; simp [killT_len], fun t ht ha => ?_⟩
    obtain ⟨k1, k2, k3⟩ := al t ht ha
    refine ⟨k1, k3, fun b hb' => ?_⟩
    have hne := apart t b k1 k2 hb'
    exact ⟨by show (if v.ownBlock = some b then n * sz else g.ext b) = _; rw [if_neg hne], hk b (h.hp.tgo t b k1 hb').2 (fun e => hne e.symm)⟩
  have jt : ∀ (t b : Nat), g'.alive[t]? = some true → g'.tbl[t]? = some (some b) → (g.alive[t]? = some true ∧ kill ≠ some t ∧ g.tbl[t]? = some (some b)) ∨ (t = g.alive.length ∧ v.ownBlock = some b) := by
    intro t b k1 k2
    rcases Nat.lt_or_ge t g.alive.length with ht | ht
    · obtain ⟨q1, q2, q3⟩ := al t ht k1
      exact .inl ⟨q1, q2, by rw [← q3]; exact k2⟩
    · right
      have k2' : (g.tbl ++ [v.ownBlock])[t]? = some (some b) := k2
      rw [List.getElem?_append_right (by omega)] at k2'
      rcases Nat.eq_zero_or_pos (t - g.tbl.length) with h0 | h0
      · rw [h0] at k2'
        simp only [List.getElem?_cons_zero, Option.some.injEq] at k2'
        exact ⟨by omega, k2'⟩
      · rw [List.getElem?_eq_none (by simp; omega)] at k2'
        cases k2'
  have objne : ∀ (i b : Nat), g.blks[i]? = some b → v.ownBlock ≠ some b := by
    intro i b hi hv
    obtain ⟨t, q1, q2, q3⟩ := own_tag b hv (h.hp.oblt i b hi)
    exact (h.hp.tgo t b q2 q3).1 i hi
  refine ⟨g', h.later later ⟨e1, e2, e3, e4, fun b hlt n1 n2 => hk b hlt (fun hv => ?_), still, fun b hlt n2 => ?_, fun _ k => .inl k, ?_⟩ rfl rfl ?_, ?_⟩
  · obtain ⟨t, q1, q2, q3⟩ := own_tag b hv.symm hlt
    exact n2 ⟨t, q2, q3⟩
  · show (if v.ownBlock = some b then n * sz else g.ext b) = _
    rw [if_neg]
    intro hv
    obtain ⟨t, q1, q2, q3⟩ := own_tag b hv hlt
    exact n2 ⟨t, q2, q3⟩
  · rintro b ⟨t, k1, k2⟩
    rcases jt t b k1 k2 with ⟨q1, q2, q3⟩ | ⟨_, hv⟩
    · exact .inl ⟨t, q1, q3⟩
    · rcases Nat.lt_or_ge b w.heap.size with hlt | hge
      · obtain ⟨t', q1, q2, q3⟩ := own_tag b hv hlt
        exact .inl ⟨t', q2, q3⟩
      · exact .inr hge
  · refine ⟨h.hp.nob, ?_, ?_, h.hp.obn, fun i b hi => Nat.lt_of_lt_of_le (h.hp.oblt i b hi) e4, ?_, ?_, ?_, ?_, ?_⟩
    · intro i x b hx hbb
      exact (h.hp.ob i x b hx hbb).later later (hk b (h.hp.oblt i b hbb) (fun e => objne i b hbb e.symm))
    · intro i x b hx hl hbb
      show (if v.ownBlock = some b then n * sz else g.ext b) = 0
      rw [if_neg (objne i b hbb)]
      exact h.hp.obx i x b hx hl hbb
    · show killT g.alive kill ++ [true] = _
      rw [h.hp.tag]
    · show (g.tbl ++ [v.ownBlock]).length = (killT st.tags kill ++ [true]).length
      simp [killT_len, h.hp.ntb]
    · intro t t' b k1 k1' k2 k2'
      rcases jt t b k1 k2 with ⟨q1, q2, q3⟩ | ⟨q1, hv⟩ <;> rcases jt t' b k1' k2' with ⟨p1, p2, p3⟩ | ⟨p1, hv'⟩
      · exact h.hp.tgn t t' b q1 p1 q3 p3
      · exact absurd hv' (apart t b q1 q2 q3)
      · exact absurd hv (apart t' b p1 p2 p3)
      · omega
    · intro t b k1 k2
      rcases jt t b k1 k2 with ⟨q1, q2, q3⟩ | ⟨q1, hv⟩
      · obtain ⟨r1, r2⟩ := h.hp.tgo t b q1 q3
        exact ⟨r1, Nat.lt_of_lt_of_le r2 e4⟩
      · exact ⟨fun i hi => objne i b hi hv, own_lt' b hv⟩
    · intro b hge
      show (if v.ownBlock = some b then n * sz else g.ext b) = 0
      rw [if_neg (fun hv => by have := own_lt' b hv; omega)]
      exact h.hp.new b (Nat.le_trans e4 hge)
  · simp only [AVal]
    refine ⟨?_, ?_, fun _ => ⟨?_, ⟨us, ho⟩, fun b hv => ?_⟩⟩
    · show _ < (killT g.alive kill ++ [true]).length
      simp [killT_len, h.hp.tag]
    · simp only [DVal]
      refine ⟨us, ⟨ho.1, ?_⟩, fun i hi => ⟨(hp i hi).1, DCells.still still _ _ (hp i hi).2⟩⟩
      rcases ho.2 with ⟨rfl, h0⟩ | ⟨g1, cap, cur, rfl, q1, q2, q3, q4⟩
      · exact .inl ⟨rfl, h0⟩
      · refine .inr ⟨g1, 0, cap, rfl, q3, ?_, fun i x hx => ?_⟩
        · show _ ≤ (if Value.ownBlock _ = some g1 then n * sz else g.ext g1)
          rw [show Value.ownBlock (.slice (some ⟨g1, 0, none⟩) n cap) = some g1 from rfl, if_pos rfl]
          omega
        · have := ho.cells (g := g1) rfl i x hx
          rw [show (⟨g1, 0, none⟩ : Addr).add i = ⟨g1, 0 + i, none⟩ from Addr.add_lit ..] at this
          exact this
    · show (g.tbl ++ [v.ownBlock])[st.tags.length]? = _
      rw [← h.hp.ntb, List.getElem?_append_right (Nat.le_refl _), Nat.sub_self]
      rfl
    · show (if v.ownBlock = some b then n * sz else g.ext b) = _
      rw [if_pos hv]

/-- A new row that nobody writes. -/
theorem Rel.bld (h : Rel W0 g0 g st a w) {us : Array Value} {U n sz : Nat} {f : Nat → List D} (hl : us.size = n * sz) (hp : ∀ i, i < n → (f i).length = sz ∧ DCells g.ext w (f i) ((us.toList.drop (i * sz)).take sz)) :
    ∃ g', Rel W0 g0 g' st a (w.alloc (.cells us U)) ∧ AVal g' (w.alloc (.cells us U)) (.p (.sl sz n f)) (.slice (some ⟨w.heap.size, 0, none⟩) n n) := by
  let ext' : Nat → Nat := fun b => if b = w.heap.size then n * sz else g.ext b
  have hold : ∀ b, b < w.heap.size → (w.alloc (.cells us U)).heap[b]? = w.heap[b]? := fun b hb => heap_alloc_old w _ hb
  have hne : ∀ b, b < w.heap.size → ext' b = g.ext b := fun b hb => by show (if b = w.heap.size then n * sz else g.ext b) = _; rw [if_neg (by omega)]
  have still : Still g.ext w ext' (w.alloc (.cells us U)) := by
    refine ⟨fun b => ?_, fun b i hi => ?_⟩
    · show g.ext b ≤ if b = w.heap.size then n * sz else g.ext b
      split
      · rename_i hb
        rw [h.hp.new b (by omega)]
        exact Nat.zero_le _
      · exact Nat.le_refl _
    · have hb : b < w.heap.size := by
        rcases Nat.lt_or_ge b w.heap.size with hb | hb
        · exact hb
        · rw [h.hp.new b hb] at hi
          omega
      exact World.cell?_of_block (hold b hb)
  have later : Later g w { g with ext := ext' } (w.alloc (.cells us U)) :=
    ⟨still, fun _ _ h => h, Nat.le_refl _, fun t ht ha => ⟨ha, rfl, fun b hb => ⟨hne b (h.hp.tgo t b ha hb).2, hold b (h.hp.tgo t b ha hb).2⟩⟩⟩
  have hsz : (w.alloc (.cells us U)).heap.size = w.heap.size + 1 := by simp
  refine ⟨{ g with ext := ext' }, h.later later ⟨rfl, rfl, rfl, by omega, fun b hb _ _ => hold b hb, still, fun b hb _ => hne b hb, fun _ h => .inl h, fun _ h => .inl h⟩ rfl rfl ?_, ?_⟩
  · refine ⟨h.hp.nob, fun i x b hx hb => (h.hp.ob i x b hx hb).later later (hold b (h.hp.oblt i b hb)), fun i x b hx hlv hb => (hne b (h.hp.oblt i b hb)).trans (h.hp.obx i x b hx hlv hb), h.hp.obn, fun i b hb => ?_, h.hp.tag, h.hp.ntb, h.hp.tgn, fun t b k1 k2 => ?_, fun b hb => ?_⟩
    · have := h.hp.oblt i b hb
      omega
    · obtain ⟨k3, k4⟩ := h.hp.tgo t b k1 k2
      exact ⟨k3, by omega⟩
    · show (if b = w.heap.size then n * sz else g.ext b) = 0
      rw [if_neg (by omega)]
      exact h.hp.new b (by omega)
  · simp only [AVal, DVal]
    refine ⟨us.toList, ⟨by simpa using hl, .inr ⟨w.heap.size, 0, n, rfl, Nat.le_refl _, ?_, fun i x hx => ?_⟩⟩, fun i hi => ⟨(hp i hi).1, DCells.still still _ _ (hp i hi).2⟩⟩
    · show _ ≤ if w.heap.size = w.heap.size then n * sz else _
      rw [if_pos rfl]
      omega
    · rw [Nat.zero_add]
      exact cell_row (f := (0, 0)) (heap_alloc_new w _) i x hx
end
end Go.Proofs.YtijakklhklcjhaaA
