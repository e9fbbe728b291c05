/- Regions that draw their order come to what the order of the text comes to. -/
import Derived.Test.YtijakklhklcjhaaAb18
namespace Go.Proofs.YtijakklhklcjhaaA
open Go Go.RowKit
set_option linter.unusedVariables false
set_option linter.unusedSimpArgs false

section
variable {P : Program} {T : TT} {cuts : List Nat}

theorem draw_static {l : List Oper} {rs : List Rw} (hlen : rs.length = l.length) (hd : drawOk l rs [] [] = true) : (∀ (i : Nat) (o : Oper), l[i]? = some o → ∀ e ∈ o.after.toList, bindsE e = true → e.on < i) ∧
    ∀ (lst : Nat → Prop), (∀ (i : Nat) (o : Oper), l[i]? = some o → lst i → ∀ e ∈ o.after.toList, bindsE e = true → lst e.on) → ∀ (i : Nat) (o : Oper) (r : Rw), l[i]? = some o → rs[i]? = some r → (∀ e ∈ o.after.toList, bindsE e = true → lst e.on) →
      ∀ (j : Nat) (q : Rw), j < i → rs[j]? = some q → clash q r = true → lst j := by
  obtain ⟨bs, hb, h⟩ := drawOk_ok hd
  have back : ∀ (i : Nat) (o : Oper), l[i]? = some o → ∀ e ∈ o.after.toList, bindsE e = true → e.on < i := by
    intro i o hi e he hbe
    have hr : i < rs.length := by rw [hlen]; exact (List.getElem?_eq_some_iff.1 hi).1
    obtain ⟨b, _, h2, _⟩ := h i o _ hi (List.getElem?_eq_getElem hr)
    have := backE_ok h2 e he hbe
    simpa using this
  refine ⟨back, ?_⟩
  intro lst cl
  have all : ∀ (i : Nat) (o : Oper) (b : Nat), l[i]? = some o → bs[i]? = some b → (∀ e ∈ o.after.toList, bindsE e = true → lst e.on) → ∀ j, b.testBit j = true → lst j := by
    intro i
    induction i using Nat.strongRecOn with
    | _ i ih =>
      intro o b hi hbi he j hj
      have hr : i < rs.length := by rw [hlen]; exact (List.getElem?_eq_some_iff.1 hi).1
      obtain ⟨b', h1, _, _, h4⟩ := h i o _ hi (List.getElem?_eq_getElem hr)
      rw [hbi] at h1
      cases h1
      rw [h4, List.nil_append] at hj
      rcases befE_ok hj with hj | ⟨e, e1, e2, e3⟩
      · simp at hj
      · rcases e3 with e3 | e3
        · rw [e3]
          exact he e e1 e2
        · have hlt := back i o hi e e1 e2
          have hil : i < l.length := (List.getElem?_eq_some_iff.1 hi).1
          have g1 : e.on < l.length := by omega
          have g2 : e.on < bs.length := by omega
          have e4 : (bs.take i).getD e.on 0 = bs[e.on] := by
            rw [List.getD_eq_getElem?_getD, List.getElem?_take, if_pos hlt, List.getElem?_eq_getElem g2]
            rfl
          rw [e4] at e3
          exact ih e.on hlt l[e.on] bs[e.on] (List.getElem?_eq_getElem g1) (List.getElem?_eq_getElem g2) (cl e.on _ (List.getElem?_eq_getElem g1) (he e e1 e2)) j e3
  intro i o r hi hr he j q hji hq hc
  obtain ⟨b, h1, _, h3, _⟩ := h i o r hi hr
  rw [List.nil_append] at h3
  have := aheadOk_ok h3 j q (by rw [List.getElem?_take, if_pos hji]; exact hq) hc
  rw [Nat.zero_add] at this
  exact all i o b hi h1 he j this

/-- Where the operations of an order stand. -/
structure Inv (ops : Array Oper) (rs : List Rw) (S : Nat → St) (listed : Array Bool) (st : St) : Prop where
  size : listed.size = ops.size
  cl : ∀ (i : Nat) (o : Oper), ops.toList[i]? = some o → listed.getD i false = true → ∀ e ∈ o.after.toList, bindsE e = true → listed.getD e.on false = true
  n : st.n = (S 0).n
  n0 : st.n0 = (S 0).n0
  pl : ∀ r, ∃ k, k ≤ ops.size ∧ agr st (S k) r ∧ (∀ (j : Nat) (q : Rw), k ≤ j → rs[j]? = some q → listed.getD j false = true → r ∉ q.2) ∧ (k = 0 ∨ ∃ (j : Nat) (q : Rw), k = j + 1 ∧ listed.getD j false = true ∧ rs[j]? = some q ∧ r ∈ q.2)

section
variable {ops : Array Oper} {rs : List Rw} {S : Nat → St} (hlen : rs.length = ops.toList.length) (hS : ∀ (i : Nat) (o : Oper) (r : Rw), ops.toList[i]? = some o → rs[i]? = some r → Loc P T cuts ops.toList o r (S i) (S (i + 1)))
include hlen hS

theorem S_n : ∀ i, i ≤ ops.size → (S i).n = (S 0).n ∧ (S i).n0 = (S 0).n0
  | 0, _ => ⟨rfl, rfl⟩
  | i + 1, h => by
    have h1 : i < ops.toList.length := by simp; omega
    have h2 : i < rs.length := by omega
    have := hS i _ _ (List.getElem?_eq_getElem h1) (List.getElem?_eq_getElem h2)
    obtain ⟨k1, k2⟩ := S_n i (by omega)
    exact ⟨this.n.trans k1, this.n0.trans k2⟩

/-- No writer between. -/
theorem S_agr {r : Rz} {k : Nat} : ∀ (d : Nat), k + d ≤ ops.size → (∀ (j : Nat) (q : Rw), k ≤ j → j < k + d → rs[j]? = some q → r ∉ q.2) → agr (S (k + d)) (S k) r
  | 0, _, _ => agr.refl _ _
  | d + 1, h, hn => by
    have h1 : k + d < ops.toList.length := by simp; omega
    have h2 : k + d < rs.length := by omega
    have := hS (k + d) _ _ (List.getElem?_eq_getElem h1) (List.getElem?_eq_getElem h2)
    refine (this.frame r (hn (k + d) _ (by omega) (by omega) (List.getElem?_eq_getElem h2))).trans ?_
    exact S_agr d (by omega) fun j q h3 h4 => hn j q h3 (by omega)

theorem any_order (hT : TOk P T) (hd : drawOk ops.toList rs [] [] = true) {W0 : World} {g0 : Gh} {Q : Exit → Act → World → Prop} (hQ : ∀ g a w, Rel W0 g0 g (S ops.size) a w → Q .normal a w) :
    ∀ (fuel : Nat) (listed : Array Bool) (st : St) (g : Gh) (a : Act) (w : World) (L : List Nat), L.length ≤ fuel → (∀ j, j < ops.size → listed.getD j false = false → j ∈ L) → Inv ops rs S listed st → Rel W0 g0 g st a w → wpAny P .any ops Q fuel listed a w := by
  obtain ⟨back, static⟩ := draw_static hlen hd
  have getT : ∀ (listed : Array Bool) (j : Nat), listed.size = ops.size → j < ops.size → listed.getD j true = listed.getD j false := by
    intro listed j h1 h2
    simp [h1, h2]
  have done : ∀ (listed : Array Bool) (st : St) (g : Gh) (a : Act) (w : World), Inv ops rs S listed st → Rel W0 g0 g st a w → (∀ j, j < ops.size → listed.getD j false = true) → Q .normal a w := by
    intro listed st g a w hi hr hall
    obtain ⟨s1, s2⟩ := S_n hlen hS ops.size (Nat.le_refl _)
    refine hQ g a w (hr.agr (hi.n.trans s1.symm) (hi.n0.trans s2.symm) fun r => ?_)
    obtain ⟨k, k1, k2, k3, _⟩ := hi.pl r
    refine k2.trans (agr.symm ?_)
    have := S_agr hlen hS (r := r) (k := k) (ops.size - k) (by omega) (fun j q h3 h4 h5 => k3 j q h3 h5 (hall j (by omega)))
    rwa [show k + (ops.size - k) = ops.size by omega] at this
  have nil : ∀ (listed : Array Bool), listed.size = ops.size → Region.ready .any ops listed = [] → ∀ j, j < ops.size → listed.getD j false = true := by
    intro listed hsz hr j
    induction j using Nat.strongRecOn with
    | _ j ih =>
      intro hj
      cases hl : listed.getD j false with
      | true => rfl
      | false =>
        exfalso
        have : j ∈ Region.ready .any ops listed := by
          refine mem_ready.2 ⟨by rw [getT listed j hsz hj]; exact hl, ops[j], by simp [hj], fun e he hb => ?_⟩
          have hlt := back j ops[j] (by simp [hj]) e (by simpa using he) (by rw [bindsE_eq]; exact hb)
          exact ih e.on hlt (by omega)
        rw [hr] at this
        cases this
  intro fuel
  induction fuel with
  | zero =>
    intro listed st g a w L hL hun hi hr
    have hall : ∀ j, j < ops.size → listed.getD j false = true := by
      intro j hj
      cases hl : listed.getD j false with
      | true => rfl
      | false =>
        have := hun j hj hl
        have : L = [] := List.eq_nil_of_length_eq_zero (by omega)
        subst this
        contradiction
    refine ⟨?_, done listed st g a w hi hr hall⟩
    cases hrd : Region.ready .any ops listed with
    | nil => rfl
    | cons i l =>
      exfalso
      have : i ∈ Region.ready .any ops listed := by rw [hrd]; simp
      obtain ⟨h1, o, h2, _⟩ := mem_ready.1 this
      have hlt : i < ops.size := (Array.getElem?_eq_some_iff.1 h2).1
      rw [getT listed i hi.size hlt, hall i hlt] at h1
      cases h1
  | succ fuel ih =>
    intro listed st g a w L hL hun hi hr
    refine ⟨fun hn => done listed st g a w hi hr (nil listed hi.size hn), fun i hir => ?_⟩
    obtain ⟨h1, o, h2, h3⟩ := mem_ready.1 hir
    have hlt : i < ops.size := (Array.getElem?_eq_some_iff.1 h2).1
    rw [getT listed i hi.size hlt] at h1
    have ho : ops.toList[i]? = some o := by rw [Array.getElem?_toList]; exact h2
    have hrl : i < rs.length := by rw [hlen]; simpa using hlt
    have hrw : rs[i]? = some rs[i] := List.getElem?_eq_getElem hrl
    generalize hq0 : rs[i] = rw0 at hrw
    have hloc := hS i o rw0 ho hrw
    have hedge : ∀ e ∈ o.after.toList, bindsE e = true → listed.getD e.on false = true := fun e he hb => h3 e (by simpa using he) (by rw [← bindsE_eq]; exact hb)
    -- those ahead that clash are listed
    have ahead : ∀ (j : Nat) (q : Rw), j < i → rs[j]? = some q → clash q rw0 = true → listed.getD j false = true :=
      static (fun j => listed.getD j false = true) hi.cl i o rw0 ho hrw hedge
    -- those behind that are listed do not clash
    have behind : ∀ (j : Nat) (q : Rw), i < j → rs[j]? = some q → listed.getD j false = true → clash rw0 q = false := by
      intro j q hj hq hl
      cases hc : clash rw0 q with
      | false => rfl
      | true =>
        have hjl : j < ops.toList.length := by rw [← hlen]; exact (List.getElem?_eq_some_iff.1 hq).1
        have := static (fun j => listed.getD j false = true) hi.cl j _ q (List.getElem?_eq_getElem hjl) hq (hi.cl j _ (List.getElem?_eq_getElem hjl) hl) i rw0 hj hrw hc
        rw [h1] at this
        cases this
    obtain ⟨s1, s2⟩ := S_n hlen hS i (by omega)
    obtain ⟨st', t1, t2, t3, t4, t5⟩ := hloc.go st (hi.n.trans s1.symm) (hi.n0.trans s2.symm) (by
      intro r hrr
      obtain ⟨k, k1, k2, k3, k4⟩ := hi.pl r
      refine k2.trans ?_
      have noback : ¬ i < k := by
        intro hik
        rcases k4 with k4 | ⟨j, q, e1, e2, e3, e4⟩
        · omega
        · have hne : j ≠ i := by
            rintro rfl
            rw [h1] at e2
            cases e2
          have := behind j q (by omega) e3 e2
          exact (clash_no this).2.2 r hrr e4
      have := S_agr hlen hS (r := r) (k := k) (i - k) (by omega) (fun j q h5 h6 h7 hw => by
        have hji : j < i := by omega
        cases hc : clash q rw0 with
        | false => exact (clash_no hc).1 r hw hrr
        | true => exact k3 j q h5 h7 (ahead j q hji h7 hc) hw)
      rw [show k + (i - k) = i by omega] at this
      exact this.symm)
    have hdoes : ∀ j, (listed.setIfInBounds i true).getD j false = true ↔ (j = i ∨ listed.getD j false = true) := by
      intro j
      by_cases hj : i = j
      · subst hj
        simp [hi.size, hlt]
      · rw [getD_set_ne false hj]
        constructor
        · exact .inr
        · rintro (h | h)
          · exact absurd h.symm hj
          · exact h
    refine t5.run hT h2 hr fun g' a' w' hr' => ?_
    refine ih _ st' g' a' w' (L.erase i) ?_ ?_ ⟨by simp [hi.size], ?_, t1.trans s1, t2.trans s2, ?_⟩ hr'
    · have := List.length_erase_of_mem (hun i hlt h1)
      omega
    · intro j hj hl
      have hne : j ≠ i := by
        rintro rfl
        rw [(hdoes j).2 (.inl rfl)] at hl
        cases hl
      refine (List.mem_erase_of_ne hne).2 (hun j hj ?_)
      rwa [getD_set_ne false (Ne.symm hne)] at hl
    · intro j o' hj hl e he hb
      refine (hdoes _).2 (.inr ?_)
      rcases (hdoes j).1 hl with h | h
      · subst h
        rw [ho] at hj
        cases hj
        exact hedge e he hb
      · exact hi.cl j o' hj h e he hb
    · intro r
      by_cases hw : r ∈ rw0.2
      · refine ⟨i + 1, by omega, t4 r hw, fun j q h5 h6 h7 h8 => ?_, .inr ⟨i, rw0, rfl, (hdoes i).2 (.inl rfl), hrw, hw⟩⟩
        rcases (hdoes j).1 h7 with h | h
        · omega
        · exact (clash_no (behind j q (by omega) h6 h)).2.1 r hw h8
      · obtain ⟨k, k1, k2, k3, k4⟩ := hi.pl r
        refine ⟨k, k1, (t3 r hw).trans k2, fun j q h5 h6 h7 => ?_, ?_⟩
        · rcases (hdoes j).1 h7 with h | h
          · subst h
            rw [hrw] at h6
            cases h6
            exact hw
          · exact k3 j q h5 h6 h
        · rcases k4 with k4 | ⟨j, q, e1, e2, e3, e4⟩
          · exact .inl k4
          · exact .inr ⟨j, q, e1, (hdoes j).2 (.inr e2), e3, e4⟩
end

theorem execD_sound (hM : P.follows .mixedOrders = true) (hT : TOk P T) {ops : Array Oper} {id : Nat} {k : St → Rs} {W0 : World} {g0 g : Gh} {st : St} {a : Act} {w : World} (h : Rel W0 g0 g st a w)
    (hs : Sat P T cuts (execD T ops.toList ops.toList st (fun rs st' => match drawOk ops.toList rs [] [] with
      | true => k st'
      | false => .fail))) {Q : Exit → Act → World → Prop} (hQ : ∀ g st a w, Rel W0 g0 g st a w → Sat P T cuts (k st) → Q .normal a w) : (Code.region id ops true).wp P Q a w := by
  obtain ⟨rs, s', htr, hk⟩ := execD_tr _ _ _ hs
  cases hd : drawOk ops.toList rs [] [] with
  | false => rw [hd] at hk; cases hk
  | true =>
    rw [hd] at hk
    obtain ⟨S, h0, hn, hlen, hS⟩ := htr.fn
    refine wp_region_any hM (any_order hlen hS hT hd (W0 := W0) (g0 := g0) (fun g a w r => hQ g _ a w r (by rw [← Array.length_toList, hn]; exact hk)) ops.size _ st g a _ (List.range ops.size) (by simp) (fun j hj _ => by simp [hj]) ?_ (h.drawn _))
    refine ⟨by simp, fun i o hi hl => ?_, by rw [h0], by rw [h0], fun r => ⟨0, by omega, by rw [h0]; exact agr.refl _ _, fun j q h1 h2 h3 => ?_, .inl rfl⟩⟩
    · exfalso
      simp only [Array.getD_eq_getD_getElem?, Array.getElem?_replicate] at hl
      split at hl <;> simp at hl
    · exfalso
      simp only [Array.getD_eq_getD_getElem?, Array.getElem?_replicate] at h3
      split at h3 <;> simp at h3
end
end Go.Proofs.YtijakklhklcjhaaA
