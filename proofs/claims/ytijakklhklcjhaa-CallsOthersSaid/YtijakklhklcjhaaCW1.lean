/- The walk through package calls: what each function comes to. -/
import Derived.Test.YtijakklhklcjhaaTy
namespace Go.Proofs.YtijakklhklcjhaaA
open Go
set_option linter.unusedVariables false
set_option linter.unusedSimpArgs false
set_option maxRecDepth 100000

def cWords : List ByteArray := [⟨#[110, 111, 119]⟩, ⟨#[115, 101, 108, 102]⟩, ⟨#[119, 97, 105, 116]⟩, ⟨#[100, 111, 110, 101]⟩, ⟨#[115, 116, 97, 114, 116]⟩, ⟨#[115, 116, 111, 112]⟩, ⟨#[115, 117, 115, 112, 101, 110, 100]⟩, ⟨#[114, 101, 115, 117, 109, 101]⟩, ⟨#[112, 114, 105, 111, 114, 105, 116, 121]⟩, ⟨#[116, 97, 107, 101]⟩, ⟨#[103, 105, 118, 101]⟩, ⟨#[100, 111, 119, 110]⟩, ⟨#[117, 112]⟩, ⟨#[114, 97, 105, 115, 101]⟩, ⟨#[108, 111, 119, 101, 114]⟩, ⟨#[97, 119, 97, 105, 116]⟩, ⟨#[115, 104, 111, 119]⟩, ⟨#[104, 105, 100, 101]⟩, ⟨#[108, 111, 111, 107]⟩, ⟨#[115, 101, 110, 100]⟩, ⟨#[114, 101, 99, 101, 105, 118, 101]⟩, ⟨#[119, 114, 105, 116, 101]⟩, ⟨#[114, 101, 97, 100]⟩, ⟨#[112, 117, 116]⟩, ⟨#[103, 101, 116]⟩, ⟨#[114, 101, 112, 111, 114, 116]⟩, ⟨#[102, 97, 105, 108]⟩, ⟨#[110, 111, 114, 109, 97, 108]⟩]
def cHas : List Int := [0, 0, 8, 0, 1, 1, 1, 1, 3, 9, 1, 9, 1, 1, 1, 9, 7, 1, 11, 15, 11, 7, 3, 7, 3, 6, 2, 0]
def cPrices : List Int := [1, 1, 2, 1, 3, 3, 2, 2, 2, 3, 3, 2, 2, 2, 1, 2, 2, 1, 6, 3, 6, 2, 6, 3, 6, 2, 1, 1]

theorem hM : Try.prog.follows .mixedOrders = true := by kernel_rfl

def kindCells : List ByteArray → List Int → List Int → List A
  | w :: ws, h :: hs, p :: ps => vA (.string w) :: vA (.int .i64 h) :: vA (.int .i64 p) :: kindCells ws hs ps
  | _, _, _ => []
theorem kinds_spec : Spec Try.prog 29 [] [] [] (fun r o t => r = .agg (kindCells cWords cHas cPrices) ∧ o = [] ∧ t = []) := by
  refine Spec.of_run [] [] (cuts := []) hM tys_ok Try.func29 Try.ntmps29 Try.results29 rfl rfl ?_
  refine Sat.goal ?_
  exact ⟨rfl, rfl, rfl⟩
theorem own29 : Own Try.prog 29 := Own.of Try.func29 rfl rfl
end Go.Proofs.YtijakklhklcjhaaA
