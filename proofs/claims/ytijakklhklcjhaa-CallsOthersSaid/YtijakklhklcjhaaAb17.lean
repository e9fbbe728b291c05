/- A walk by reckoning: what it comes to holds of the machine. -/
import Derived.Test.YtijakklhklcjhaaAb19
namespace Go.Proofs.YtijakklhklcjhaaA
open Go Go.RowKit
set_option linter.unusedVariables false
set_option linter.unusedSimpArgs false

section
variable {P : Program} {T : TT} {W0 : World} {g0 : Gh} {cuts : List Nat}

theorem wp_loop_ix {c : Code} {Q : Exit → Act → World → Prop} {ι : Type} (I : ι → Act → World → Prop) (μ : ι → Nat) {x0 : ι} {a : Act} {w : World} (h0 : I x0 a w)
    (round : ∀ x a w, I x a w → c.wp P (Exit.then (fun a' w' => ∃ x', I x' a' w' ∧ μ x' < μ x) Q) a w) : (Code.loop c).wp P Q a w := by
  intro b k cs
  have key : ∀ n x a w, μ x = n → I x a w → ∃ e a' w', Q e a' w' ∧ Arrives P (lone (b.at a (.code c :: .inLoop c :: k)) cs w) b k cs e a' w' := by
    intro n
    induction n using Nat.strongRecOn with
    | _ n ih =>
      intro x a w hn hI
      obtain ⟨e, a1, w1, hq, harr⟩ := round x a w hI b (.inLoop c :: k) cs
      cases e with
      | normal =>
        obtain ⟨x1, hI1, hlt⟩ := hq
        obtain ⟨e2, a2, w2, hq2, harr2⟩ := ih (μ x1) (hn ▸ hlt) x1 a1 w1 rfl hI1
        exact ⟨e2, a2, w2, hq2, .of_steps (Steps.trans harr (.one step_inLoop)) harr2⟩
      | exit id => exact ⟨_, a1, w1, hq, .pass (x := .inLoop c) rfl (fun _ _ => .inl (by simp)) harr⟩
      | goto l => exact ⟨_, a1, w1, hq, .pass (x := .inLoop c) rfl (fun _ _ => .inl (by simp)) harr⟩
      | ret => exact ⟨_, a1, w1, hq, .pass (x := .inLoop c) rfl (fun _ _ => .inl (by simp)) harr⟩
      | panic ch => exact ⟨_, a1, w1, hq, .pass (x := .inLoop c) rfl (fun _ _ => .inl (by simp)) harr⟩
      | outgrown => exact ⟨_, a1, w1, hq, .pass (x := .inLoop c) rfl (fun _ _ => .inl (by simp)) harr⟩
  obtain ⟨e, a', w', hq, harr⟩ := key _ x0 a w rfl h0
  exact ⟨e, a', w', hq, .of_steps (.one step_loop) harr⟩

def awp (P : Program) (W0 : World) (g0 : Gh) (c : Code) (Q : Ex → St → Prop) (st : St) : Prop :=
  ∀ g a w, Rel W0 g0 g st a w → c.wp P (lift W0 g0 Q) a w

theorem Sat.goal_inv {c : Prop} (h : Sat P T cuts (.goal c)) : c := by cases h; assumption

theorem exec_sound (hM : P.follows .mixedOrders = true) (hT : TOk P T) : ∀ (c : Code) (k : Ex → St → Rs) (st : St), Sat P T cuts (exec T cuts c k st) → awp P W0 g0 c (fun e st' => Sat P T cuts (k e st')) st
  | .skip, k, st, hs => fun g a w h => wp_skip ⟨g, st, hs, h⟩
  | .region id ops dr, k, st, hs => fun g a w h => by
    cases dr with
    | true =>
      simp only [exec] at hs
      exact execD_sound hM hT h hs (fun g st a w r s => ⟨g, st, s, r⟩)
    | false =>
      simp only [exec] at hs
      exact wp_region_list (execOps_sound hT (fun g st a w r s => ⟨g, st, s, r⟩) _ g st a w h hs)
  | .seq x y, k, st, hs => fun g a w h => by
    simp only [exec] at hs
    refine wp_seq ?_
    cases hc : isCut cuts x with
    | false =>
      rw [hc] at hs
      refine wp_mono (exec_sound hM hT x _ st hs g a w h) ?_
      intro e a' w' hq
      cases e with
      | normal =>
        obtain ⟨g', st', s, r⟩ := hq
        exact exec_sound hM hT y k st' s g' a' w' r
      | exit id => exact hq
      | ret => exact hq
      | goto l => exact hq
      | panic ch => exact hq
      | outgrown => exact hq
    | true =>
      rw [hc] at hs
      simp only at hs
      cases hs with
      | cut ι J first rest =>
        refine wp_mono (exec_sound hM hT x _ st first g a w h) ?_
        intro e a' w' hq
        cases e with
        | normal =>
          obtain ⟨g', st', s, r⟩ := hq
          obtain ⟨i, hw⟩ := s.goal_inv
          obtain ⟨g2, r2⟩ := hw W0 g0 g' a' w' r
          exact exec_sound hM hT y k (J i) (rest i) g2 a' w' r2
        | exit id => exact hq
        | ret => exact hq
        | goto l => exact hq
        | panic ch => exact hq
        | outgrown => exact hq
  | .cond c x y, k, st, hs => fun g a w h => by
    simp only [exec] at hs
    have hc := opnd_ok h c
    cases hq : opnd st c with
    | p d =>
      cases d with
      | v vv =>
        cases vv with
        | bool b =>
          rw [hq] at hs hc
          simp only at hs
          have ev := AVal_pv.1 hc
          cases hs with
          | split s1 s2 => exact wp_cond_split ev (fun hb => exec_sound hM hT x k st (s1 hb) g a w h) (fun hb => exec_sound hM hT y k st (s2 hb) g a w h)
        | _ => rw [hq] at hs; cases hs
      | sl _ _ _ => rw [hq] at hs; cases hs
    | _ => rw [hq] at hs; cases hs
  | .block id c, k, st, hs => fun g a w h => by
    simp only [exec] at hs
    refine wp_block (wp_mono (exec_sound hM hT c _ st hs g a w h) ?_)
    intro e a' w' hq
    cases e with
    | normal => exact hq
    | exit i =>
      simp only [Exit.inBlock]
      obtain ⟨g', st', s, r⟩ := hq
      simp only at s
      by_cases hi : i = id
      · subst hi
        rw [if_pos rfl]
        rw [Nat.beq_refl] at s
        exact ⟨g', st', s, r⟩
      · rw [if_neg hi]
        have e2 : Nat.beq i id = false := by
          cases hb : Nat.beq i id with
          | false => rfl
          | true => exact absurd (Nat.eq_of_beq_eq_true hb) hi
        rw [e2] at s
        exact ⟨g', st', s, r⟩
    | ret => exact hq
    | goto l => exact hq
    | panic ch => exact hq
    | outgrown => exact hq
  | .exit id, k, st, hs => fun g a w h => wp_exit ⟨g, st, hs, h⟩
  | .ret, k, st, hs => fun g a w h => wp_ret ⟨g, st, hs, h⟩
  | .loop c, k, st, hs => fun g a w h => by
    simp only [exec] at hs
    cases hs with
    | loop ι I μ x0 h0 round =>
      refine wp_loop_ix (fun x a w => ∃ g, Rel W0 g0 g (I x) a w) μ (x0 := x0) (h0 W0 g0 g a w h) ?_
      rintro x a w ⟨g, hr⟩
      refine wp_mono (exec_sound hM hT c _ (I x) (round x) g a w hr) ?_
      intro e a' w' hq
      cases e with
      | normal =>
        obtain ⟨g', st', s, r⟩ := hq
        obtain ⟨x', hw, hlt⟩ := s.goal_inv
        exact ⟨x', hw W0 g0 g' a' w' r, hlt⟩
      | exit id => exact hq
      | ret => exact hq
      | goto l => exact hq
      | panic ch => exact hq
      | outgrown => exact hq
    | unroll n hu =>
      refine wp_loop_ix (fun n a w => ∃ g st, Rel W0 g0 g st a w ∧ Sat P T cuts (unr T cuts c k n st)) (fun n => n) (x0 := n) ⟨g, st, h, hu⟩ ?_
      rintro n a w ⟨g, st, hr, hu⟩
      cases n with
      | zero => cases hu
      | succ n =>
        refine wp_mono (exec_sound hM hT c _ st hu g a w hr) ?_
        intro e a' w' hq
        cases e with
        | normal =>
          obtain ⟨g', st', s, r⟩ := hq
          exact ⟨n, ⟨g', st', r, s⟩, Nat.lt_succ_self n⟩
        | exit id => exact hq
        | ret => exact hq
        | goto l => exact hq
        | panic ch => exact hq
        | outgrown => exact hq
  | .rangeFunc f ps x y, k, st, hs => by simp only [exec] at hs; cases hs
  | .scope c, k, st, hs => by simp only [exec] at hs; cases hs
  | .label l, k, st, hs => by simp only [exec] at hs; cases hs
  | .goto l, k, st, hs => by simp only [exec] at hs; cases hs
  | .refuse y, k, st, hs => by simp only [exec] at hs; cases hs
end
end Go.Proofs.YtijakklhklcjhaaA
