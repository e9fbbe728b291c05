/- The law LifeNews for every number: one that may be, and one that may not. -/
import Derived.Test.YtpabbpcklgipnaaQLifeNewsx3s
import Derived.Test.YtpabbpcklgipnaaRLifeNewsx3s
namespace Go.Proofs.Ytpabbpcklgipnaa.PLifeNews
open Go.RowKit Go.Proofs.YtpabbpcklgipnaaW.PrintWords Go.Proofs.YtpabbpcklgipnaaW.PrintLast

theorem pure_law (a0 : Int) (_ : (Lit.int .i64 a0).wf = true) : ∃ _k : Nat, True := ⟨0, trivial⟩

theorem any_calls (_k : Nat) (a0 : Int) (_r : Bool) (w : World) (_ : True) : Calls Try.prog 13 #[.int .i64 a0] w fun e w' => e = .returned (.bool true) ∧ Below w.heap.size w w' := by
  by_cases h : 0 ≤ a0 ∧ a0 ≤ 1000
  · exact news_walk 30 (by kernel_rfl) a0 h.1 h.2 w
  · refine PLifeNewsR.news_walk 30 (by kernel_rfl) a0 ?_ (decide (0 ≤ a0)) rfl ?_ w
    · unfold PLifeNewsR.life_New_fails.f
      by_cases c : a0 < 0
      · rw [if_pos c]
      · rw [if_neg c, if_pos (by omega)]
    · intro c
      have c' := of_decide_eq_true c
      exact decide_eq_false (by omega)

end Go.Proofs.Ytpabbpcklgipnaa.PLifeNews
