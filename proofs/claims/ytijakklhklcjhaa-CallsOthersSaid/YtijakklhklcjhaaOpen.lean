/- How what is handed to a law is opened: from the reading of an argument as data to its cells, by its type's shape; with what the row promises of each part. -/
import Derived.Test.YtijakklhklcjhaaRows
import Derived.Test.YtijakklhklcjhaaWWords
import Derived.WalkKit
import Derived.ProofKit
import Derived.OpenShut
import Derived.ShutString
import Derived.ChangeOld
import Derived.Below
import Derived.SizedLaws
namespace Go.Proofs.Ytijakklhklcjhaa.Open
open Go.Proofs.YtijakklhklcjhaaW.PrintWords Go.ChangeShapes Go.WideShapes
set_option linter.unusedVariables false
set_option linter.unusedSimpArgs false

/-- Whatever reads as data of type t is a value of kind d, and is Good. -/
structure Opens (P : Program) (t : TypeId) {α : Type} (d : Kd α) (Good : α → Prop) : Prop where
  run : ∀ {H : Type} (enc : TypeId × Value → H) (w : World) (spare : Nat → Bool) (held : Bool) (fuel : Nat) (cs : List Value) (x : DataW H × List MemPlace),
    DataW.trod enc P w 0 spare held fuel t cs = some x → (∀ n ∈ x.1.weights P t, n ≤ reachBytes) → ∃ a, d.K w a cs ∧ Good a

theorem opens_int {P : Program} {t : TypeId} {k : IntKind} (ht : P.underlying t = some (.int k)) : Opens P t (Kd.int k) (fun n => (Lit.int k n).wf = true) := by
  refine ⟨?_⟩
  intro H enc w spare held fuel cs x h _
  obtain ⟨n, rfl, _, hw⟩ := DataW.trod_int ht h
  exact ⟨n, rfl, hw⟩
theorem opens_bool {P : Program} {t : TypeId} (ht : P.underlying t = some .bool) : Opens P t Kd.bool (fun _ => True) := by
  refine ⟨?_⟩
  intro H enc w spare held fuel cs x h _
  obtain ⟨b, rfl, _⟩ := DataW.trod_bool ht h
  exact ⟨b, rfl, trivial⟩
theorem opens_string {P : Program} {t : TypeId} (ht : P.underlying t = some .string) : Opens P t Kd.string (fun s => s.size ≤ 140737488351232) := by
  refine ⟨?_⟩
  intro H enc w spare held fuel cs x h hw
  obtain ⟨s, rfl, rfl, hm⟩ := DataW.trod_string ht h
  refine ⟨s, rfl, ?_⟩
  have := hw s.data.toList.length (by simp [DataW.weights])
  rw [Array.length_toList] at this
  exact this

theorem weightsAll_mem {H : Type} {P : Program} {e : TypeId} : ∀ {ds : List (DataW H)} {d : DataW H}, d ∈ ds → ∀ n ∈ d.weights P e, n ∈ DataW.weightsAll P e ds
  | d0 :: ds, d, hd, n, hn => by
    simp only [DataW.weightsAll, List.mem_append]
    rcases List.mem_cons.1 hd with rfl | hd
    · exact .inl hn
    · exact .inr (weightsAll_mem hd n hn)
  | [], d, hd, n, hn => by cases hd

theorem rowmade {α : Type} {R : α → List Value → Prop} {Good : α → Prop} {size : Nat} {w : World} {a : Addr} (hR : ∀ {x c}, R x c → c.length = size) : ∀ (m : Nat) (off : Nat),
    (∀ i, i < m → ∃ c x, w.cells? 0 (a.add ((off + i) * size)) size = some c ∧ R x c ∧ Good x) →
    ∃ l : List α, l.length = m ∧ (∀ x ∈ l, Good x) ∧ ∀ j p, l[j]? = some p → ∃ c, c.length = size ∧ R p c ∧ ∀ i u, c[i]? = some u → w.cell? (a.add ((off + j) * size + i)) = some u := by
  intro m
  induction m with
  | zero => exact fun off _ => ⟨[], rfl, by simp, by simp⟩
  | succ m ih =>
    intro off h
    obtain ⟨l, hl, hg, hc⟩ := ih (off + 1) (fun i hi => by
      have := h (i + 1) (by omega)
      rwa [show off + (i + 1) = off + 1 + i by omega] at this)
    obtain ⟨c, x, h1, h2, h3⟩ := h 0 (by omega)
    refine ⟨x :: l, by simp [hl], ?_, ?_⟩
    · intro y hy
      rcases List.mem_cons.1 hy with rfl | hy
      · exact h3
      · exact hg y hy
    · intro j p hj
      rcases j with _ | j
      · simp only [List.getElem?_cons_zero, Option.some.injEq] at hj
        subst hj
        refine ⟨c, hR h2, h2, fun i u hu => ?_⟩
        obtain ⟨_, hlen, hcell⟩ := World.cells?_some h1
        have hi : i < size := by
          have := (List.getElem?_eq_some_iff.1 hu).1
          omega
        rw [← Addr.add_add]
        rw [hcell i hi, hu]
      · simp only [List.getElem?_cons_succ] at hj
        have := hc j p hj
        rwa [show off + 1 + j = off + (j + 1) by omega] at this

theorem opens_slice {P : Program} {t e : TypeId} {α : Type} {d : Kd α} {Good : α → Prop} (b : Nat) (ht : P.underlying t = some (.slice e)) (hs : P.cellsOf e = d.sz) (hb : P.bytesOf e = b) (he : Opens P e d Good) :
    Opens P t (Kd.slice e d) (fun l => l.length ≤ maxLen ∧ l.length * b ≤ 140737488351232 ∧ ∀ x ∈ l, Good x) := by
  refine ⟨?_⟩
  intro H enc w spare held fuel cs x h hw
  rcases DataW.trod_slice ht h with ⟨rfl, rfl⟩ | ⟨a, len, cap, elems, rest, n, _, rfl, rfl, _, hl, hm, hlen, hel, hsp, hns⟩
  · exact ⟨[], ⟨none, 0, rfl, Nat.le_refl _, ⟨rfl, by simp, fun h => absurd h (by simp)⟩⟩, by simp, by simp, by simp⟩
  · have each : ∀ i, i < len → ∃ c x, w.cells? 0 (a.add ((0 + i) * d.sz)) d.sz = some c ∧ d.K w x c ∧ Good x := by
      intro i hi
      have h1 := hel i hi
      rw [List.getElem?_eq_getElem (by omega), Option.bind_eq_some_iff] at h1
      obtain ⟨c, hc, hx⟩ := h1
      obtain ⟨y, hk, hg⟩ := he.run enc w spare held n c _ hx (fun m hm => hw m (by
        simp only [DataW.weights, ht]
        refine List.mem_cons_of_mem _ (List.mem_append_left _ (weightsAll_mem (d := elems[i].1) ?_ m hm))
        exact List.mem_map.2 ⟨elems[i], List.getElem_mem _, rfl⟩))
      rw [hs] at hc
      exact ⟨c, y, by rw [Nat.zero_add]; exact hc, hk, hg⟩
    obtain ⟨l, hll, hg, hc⟩ := rowmade (fun h => d.K_len h) len 0 each
    refine ⟨l, ⟨some a, cap, by rw [hll], by omega, ⟨rfl, by unfold maxLen at hm; omega, fun _ => ⟨a, rfl, fun j p hj => ?_⟩⟩⟩, by omega, ?_, hg⟩
    · have := hc j p hj
      rwa [Nat.zero_add] at this
    · have := hw ((elems.length + rest.length) * P.bytesOf e) (by simp [DataW.weights, ht])
      rw [hb] at this
      have h2 : l.length * b ≤ (elems.length + rest.length) * b := Nat.mul_le_mul_right _ (by omega)
      exact Nat.le_trans h2 this

/-- The fields of a struct from the one at cell 'off' on. -/
structure OpensFs (P : Program) (off : Nat) (fs : List Field) {α : Type} (d : Kd α) (Good : α → Prop) : Prop where
  run : ∀ {H : Type} (enc : TypeId × Value → H) (w : World) (spare : Nat → Bool) (held : Bool) (fuel : Nat) (cs : List Value) (xs : List (DataW H × List MemPlace)), cs.length = off + d.sz →
    xs.length = fs.length → (∀ (i : Nat) (f : Field), fs[i]? = some f → DataW.trod enc P w 0 spare held fuel f.type ((cs.drop f.offset).take (P.cellsOf f.type)) = xs[i]?) →
    (∀ n ∈ DataW.weightsEach P (fs.map (·.type)) (xs.map (·.1)), n ≤ reachBytes) → ∃ a, d.K w a (cs.drop off) ∧ Good a

theorem opensFs_one {P : Program} {off : Nat} {f : Field} {α : Type} {d : Kd α} {Good : α → Prop} (ho : f.offset = off) (hs : P.cellsOf f.type = d.sz) (h : Opens P f.type d Good) : OpensFs P off [f] d Good := by
  refine ⟨?_⟩
  intro H enc w spare held fuel cs xs hl hx hf hw
  obtain ⟨x, rfl⟩ : ∃ x, xs = [x] := by
    match xs, hx with
    | [x], _ => exact ⟨x, rfl⟩
  have h1 := hf 0 f rfl
  rw [ho, hs] at h1
  have e : (cs.drop off).take d.sz = cs.drop off := List.take_of_length_le (by rw [List.length_drop]; omega)
  rw [e] at h1
  exact h.run enc w spare held fuel _ x h1 (fun n hn => hw n (by simp only [List.map_cons, List.map_nil, DataW.weightsEach, List.append_nil]; exact hn))

theorem opensFs_cons {P : Program} {off off' : Nat} {f : Field} {fs : List Field} {α β : Type} {d : Kd α} {e : Kd β} {Good : α → Prop} {Good' : β → Prop} (ho : f.offset = off) (hs : P.cellsOf f.type = d.sz) (hn : off + d.sz = off')
    (h : Opens P f.type d Good) (hr : OpensFs P off' fs e Good') : OpensFs P off (f :: fs) (Kd.pair d e) (fun x => Good x.1 ∧ Good' x.2) := by
  refine ⟨?_⟩
  intro H enc w spare held fuel cs xs hl hx hf hw
  obtain ⟨x, xs, rfl⟩ : ∃ x ys, xs = x :: ys := by
    match xs, hx with
    | x :: ys, _ => exact ⟨x, ys, rfl⟩
  have hl' : cs.length = off + (d.sz + e.sz) := hl
  have h1 := hf 0 f rfl
  rw [ho, hs] at h1
  obtain ⟨a, hk, hg⟩ := h.run enc w spare held fuel _ x h1 (fun n hn => hw n (by simp only [List.map_cons, DataW.weightsEach, List.mem_append]; exact .inl hn))
  obtain ⟨b, hk', hg'⟩ := hr.run enc w spare held fuel cs xs (by omega) (by simpa using hx) (fun i g hi => by
    have := hf (i + 1) g (by simpa using hi)
    simpa using this) (fun n hn => hw n (by simp only [List.map_cons, DataW.weightsEach, List.mem_append]; exact .inr hn))
  refine ⟨(a, b), ⟨_, _, ?_, hk, hk'⟩, hg, hg'⟩
  rw [← hn, ← List.drop_drop, List.take_append_drop]

theorem opens_struct {P : Program} {t : TypeId} {fs : Array Field} {α : Type} {d : Kd α} {Good : α → Prop} (ht : P.underlying t = some (.struct fs)) (hs : P.cellsOf t = d.sz) (h : OpensFs P 0 fs.toList d Good) : Opens P t d Good := by
  refine ⟨?_⟩
  intro H enc w spare held fuel cs x hx hw
  obtain ⟨xs, n, _, rfl, hl, hxl, hf⟩ := DataW.trod_struct ht hx
  obtain ⟨a, hk, hg⟩ := h.run enc w spare held n cs xs (by omega) (by simpa using hxl) (fun i f hi => hf i f (by simpa using hi)) (fun m hm => hw m (by simp only [DataW.weights, ht]; exact hm))
  exact ⟨a, hk, hg⟩

theorem opens_iso {P : Program} {t : TypeId} {α β : Type} {d : Kd α} {Good : α → Prop} (f : β → α) (g : α → β) (hfg : ∀ a, f (g a) = a) (h : Opens P t d Good) : Opens P t (Kd.iso d f) (fun b => Good (f b)) := by
  refine ⟨?_⟩
  intro H enc w spare held fuel cs x hx hw
  obtain ⟨a, hk, hg⟩ := h.run enc w spare held fuel cs x hx hw
  exact ⟨g a, by show d.K w (f (g a)) cs; rw [hfg]; exact hk, by show Good (f (g a)); rw [hfg]; exact hg⟩

/-- An argument of a row: its value's cells are of kind d, and it is Good. -/
theorem arg_opens {P : Program} {t : TypeId} {α : Type} {d : Kd α} {Good : α → Prop} (h : Opens P t d Good) {H : Type} {enc : TypeId × Value → H} {w : World} {spare : Nat → Bool} {held : Bool} {v : Value} {x : DataW H} {ps : List MemPlace}
    {ts : List TypeId} {ds : List (DataW H)} {j : Nat} (hsz : (DataW.weightsEach P ts ds).all (· ≤ reachBytes) = true) (hj : ts[j]? = some t) (hd : ds[j]? = some x) (hv : DataW.Trod enc P w 0 spare held t v x ps) : ∃ a, d.K w a v.cells.toList ∧ Good a := by
  obtain ⟨fuel, hf⟩ := hv
  exact h.run enc w spare held fuel _ _ hf (fun n hn => by simpa using List.all_eq_true.1 hsz n (DataW.weights_mem_each hj hd n hn))

theorem cells_agg {v : Value} {cs : List Value} (hv : ∃ c, v = .agg c) (h : v.cells.toList = cs) : v = .agg cs.toArray := by
  obtain ⟨c, rfl⟩ := hv
  simp only [Value.cells] at h
  rw [← h]

theorem cells_slice {v : Value} {a : Option Addr} {n c : Nat} (hv : ∃ a len cap, v = .slice a len cap) (h : v.cells.toList = [.slice a n c]) : v = .slice a n c := by
  obtain ⟨a', n', c', rfl⟩ := hv
  simpa [Value.cells] using h

theorem lt_places {H : Type} {enc : TypeId × Value → H} {P : Program} {W : World} {base : Nat} {spare : Nat → Bool} {held : Bool} {t : TypeId} {v : Value} {d : DataW H} {p : List MemPlace} (h : DataW.Trod enc P W base spare held t v d p) : ∀ x ∈ p, x.block < W.heap.size := by
  obtain ⟨m, hm⟩ := h
  exact DataW.trod_lt m _ _ _ hm

end Go.Proofs.Ytijakklhklcjhaa.Open
