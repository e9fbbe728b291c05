/-
  No cell of these rows narrows 'for every input' (looked for: loops, veiled, ifaces, maps, wideKeys, modest, calm, conditions, laid).
  DERIVED. THE GIVEN ROWS OF THIS SEAT. 12 by the template 'for every input the law returns true; each argument reads behind the call as it read before'; 0 by the template 'total and deterministic' (their statements: YtpabbpcklgipnaaTotals.lean).
  GIVEN WITH THE SEED: the statements are not yours to turn. If you find one false, say at which input.
  Laid BY PROGRAM, IN A SANDBOX (cutbox-rows.mjs): the forced cells as the released guide's own fill.sh prints them over the translation 9b2bab7cfc36c6be… (all of the seat's roots in one cut). By AI agents, Wed Nov 11 2026. No macro, syntax, notation, axiom, sorry.
-/
import Derived.Test.YtpabbpcklgipnaaChecked
import GoSem.Claim
import GoSem.ClaimJoined
import GoSem.ClaimMapViews
import Derived.JoinedTies
import Derived.KernelRfl
namespace Go.Proofs.Ytpabbpcklgipnaa
/- THE CELL 'sum', in the pinned program and in every row, IS THE sha256 OF THE DUMP (.gsa) THAT YtpabbpcklgipnaaProg.lean LOADS. Nothing in Lean hashes anything: it is a label: what it is worth is what the hold of that sum in a sandbox is worth. -/
noncomputable def Try.pinned : Pinned := { name := "ytpabbpcklgipnaa", sum := "9b2bab7cfc36c6beed48ad2a04ecafbd4e206a9a901a3e4ee75e0db983e12098", checked := Try.checked }
namespace Rows
def none {H : Type} : Left H := { results := [], args := [] }

/-- 'monocoquelaw30.BudgetBound': WHATEVER THE INPUT: true; the input reads as it did. -/
def budgetBoundSpec : ChangeSpec := { name := "budgetBound", fn := fun _ => fun
  | [d1, d2, d3, d4] => { results := [.lit (.bool true)], args := [d1, d2, d3, d4] }
  | _ => none }
def budgetBoundRow : OpenClaim := { program := "ytpabbpcklgipnaa", sum := "9b2bab7cfc36c6beed48ad2a04ecafbd4e206a9a901a3e4ee75e0db983e12098", func := "monocoque/monocoquelaw30.BudgetBound", spec := "budgetBound", apart := false }
def BudgetBoundSaid : Prop := budgetBoundRow.holds Try.pinned (OpenSpec.ofChange budgetBoundSpec)

/-- ITS FALSE NEIGHBOUR: 'it returns false'. Refute it at one input. -/
def budgetBoundWrong : ChangeSpec := { name := "budgetBound", fn := fun _ => fun
  | [d1, d2, d3, d4] => { results := [.lit (.bool false)], args := [d1, d2, d3, d4] }
  | _ => none }
def BudgetBoundWrongFalsely : Prop := budgetBoundRow.holds Try.pinned (OpenSpec.ofChange budgetBoundWrong)

/-- 'monocoquelaw30.BudgetGives': WHATEVER THE INPUT: true; the input reads as it did. -/
def budgetGivesSpec : ChangeSpec := { name := "budgetGives", fn := fun _ => fun
  | [d1, d2, d3, d4] => { results := [.lit (.bool true)], args := [d1, d2, d3, d4] }
  | _ => none }
def budgetGivesRow : OpenClaim := { program := "ytpabbpcklgipnaa", sum := "9b2bab7cfc36c6beed48ad2a04ecafbd4e206a9a901a3e4ee75e0db983e12098", func := "monocoque/monocoquelaw30.BudgetGives", spec := "budgetGives", apart := false }
def BudgetGivesSaid : Prop := budgetGivesRow.holds Try.pinned (OpenSpec.ofChange budgetGivesSpec)

/-- ITS FALSE NEIGHBOUR: 'it returns false'. Refute it at one input. -/
def budgetGivesWrong : ChangeSpec := { name := "budgetGives", fn := fun _ => fun
  | [d1, d2, d3, d4] => { results := [.lit (.bool false)], args := [d1, d2, d3, d4] }
  | _ => none }
def BudgetGivesWrongFalsely : Prop := budgetGivesRow.holds Try.pinned (OpenSpec.ofChange budgetGivesWrong)

/-- 'monocoquelaw30.BudgetMoves': WHATEVER THE INPUT: true; the input reads as it did. -/
def budgetMovesSpec : ChangeSpec := { name := "budgetMoves", fn := fun _ => fun
  | [d1, d2, d3, d4, d5] => { results := [.lit (.bool true)], args := [d1, d2, d3, d4, d5] }
  | _ => none }
def budgetMovesRow : OpenClaim := { program := "ytpabbpcklgipnaa", sum := "9b2bab7cfc36c6beed48ad2a04ecafbd4e206a9a901a3e4ee75e0db983e12098", func := "monocoque/monocoquelaw30.BudgetMoves", spec := "budgetMoves", apart := false }
def BudgetMovesSaid : Prop := budgetMovesRow.holds Try.pinned (OpenSpec.ofChange budgetMovesSpec)

/-- ITS FALSE NEIGHBOUR: 'it returns false'. Refute it at one input. -/
def budgetMovesWrong : ChangeSpec := { name := "budgetMoves", fn := fun _ => fun
  | [d1, d2, d3, d4, d5] => { results := [.lit (.bool false)], args := [d1, d2, d3, d4, d5] }
  | _ => none }
def BudgetMovesWrongFalsely : Prop := budgetMovesRow.holds Try.pinned (OpenSpec.ofChange budgetMovesWrong)

/-- 'monocoquelaw30.BudgetParts': WHATEVER THE INPUT: true; the input reads as it did. -/
def budgetPartsSpec : ChangeSpec := { name := "budgetParts", fn := fun _ => fun
  | [d1, d2, d3, d4] => { results := [.lit (.bool true)], args := [d1, d2, d3, d4] }
  | _ => none }
def budgetPartsRow : OpenClaim := { program := "ytpabbpcklgipnaa", sum := "9b2bab7cfc36c6beed48ad2a04ecafbd4e206a9a901a3e4ee75e0db983e12098", func := "monocoque/monocoquelaw30.BudgetParts", spec := "budgetParts", apart := false }
def BudgetPartsSaid : Prop := budgetPartsRow.holds Try.pinned (OpenSpec.ofChange budgetPartsSpec)

/-- ITS FALSE NEIGHBOUR: 'it returns false'. Refute it at one input. -/
def budgetPartsWrong : ChangeSpec := { name := "budgetParts", fn := fun _ => fun
  | [d1, d2, d3, d4] => { results := [.lit (.bool false)], args := [d1, d2, d3, d4] }
  | _ => none }
def BudgetPartsWrongFalsely : Prop := budgetPartsRow.holds Try.pinned (OpenSpec.ofChange budgetPartsWrong)

/-- 'monocoquelaw30.BudgetPlays': WHATEVER THE INPUT: true; the input reads as it did. -/
def budgetPlaysSpec : ChangeSpec := { name := "budgetPlays", fn := fun _ => fun
  | [d1, d2, d3, d4] => { results := [.lit (.bool true)], args := [d1, d2, d3, d4] }
  | _ => none }
def budgetPlaysRow : OpenClaim := { program := "ytpabbpcklgipnaa", sum := "9b2bab7cfc36c6beed48ad2a04ecafbd4e206a9a901a3e4ee75e0db983e12098", func := "monocoque/monocoquelaw30.BudgetPlays", spec := "budgetPlays", apart := false }
def BudgetPlaysSaid : Prop := budgetPlaysRow.holds Try.pinned (OpenSpec.ofChange budgetPlaysSpec)

/-- ITS FALSE NEIGHBOUR: 'it returns false'. Refute it at one input. -/
def budgetPlaysWrong : ChangeSpec := { name := "budgetPlays", fn := fun _ => fun
  | [d1, d2, d3, d4] => { results := [.lit (.bool false)], args := [d1, d2, d3, d4] }
  | _ => none }
def BudgetPlaysWrongFalsely : Prop := budgetPlaysRow.holds Try.pinned (OpenSpec.ofChange budgetPlaysWrong)

/-- 'monocoquelaw30.BudgetNil': WHATEVER THE INPUT: true; the input reads as it did. -/
def budgetNilSpec : ChangeSpec := { name := "budgetNil", fn := fun _ => fun
  | [d1, d2] => { results := [.lit (.bool true)], args := [d1, d2] }
  | _ => none }
def budgetNilRow : OpenClaim := { program := "ytpabbpcklgipnaa", sum := "9b2bab7cfc36c6beed48ad2a04ecafbd4e206a9a901a3e4ee75e0db983e12098", func := "monocoque/monocoquelaw30.BudgetNil", spec := "budgetNil", apart := false }
def BudgetNilSaid : Prop := budgetNilRow.holds Try.pinned (OpenSpec.ofChange budgetNilSpec)

/-- ITS FALSE NEIGHBOUR: 'it returns false'. Refute it at one input. -/
def budgetNilWrong : ChangeSpec := { name := "budgetNil", fn := fun _ => fun
  | [d1, d2] => { results := [.lit (.bool false)], args := [d1, d2] }
  | _ => none }
def BudgetNilWrongFalsely : Prop := budgetNilRow.holds Try.pinned (OpenSpec.ofChange budgetNilWrong)

/-- 'monocoquelaw32.LifeBounds': WHATEVER THE INPUT: true; the input reads as it did. -/
def lifeBoundsSpec : ChangeSpec := { name := "lifeBounds", fn := fun _ => fun
  | [d1, d2] => { results := [.lit (.bool true)], args := [d1, d2] }
  | _ => none }
def lifeBoundsRow : OpenClaim := { program := "ytpabbpcklgipnaa", sum := "9b2bab7cfc36c6beed48ad2a04ecafbd4e206a9a901a3e4ee75e0db983e12098", func := "monocoque/monocoquelaw32.LifeBounds", spec := "lifeBounds", apart := false }
def LifeBoundsSaid : Prop := lifeBoundsRow.holds Try.pinned (OpenSpec.ofChange lifeBoundsSpec)

/-- ITS FALSE NEIGHBOUR: 'it returns false'. Refute it at one input. -/
def lifeBoundsWrong : ChangeSpec := { name := "lifeBounds", fn := fun _ => fun
  | [d1, d2] => { results := [.lit (.bool false)], args := [d1, d2] }
  | _ => none }
def LifeBoundsWrongFalsely : Prop := lifeBoundsRow.holds Try.pinned (OpenSpec.ofChange lifeBoundsWrong)

/-- 'monocoquelaw32.LifeStarts': WHATEVER THE INPUT: true; the input reads as it did. -/
def lifeStartsSpec : ChangeSpec := { name := "lifeStarts", fn := fun _ => fun
  | [d1, d2] => { results := [.lit (.bool true)], args := [d1, d2] }
  | _ => none }
def lifeStartsRow : OpenClaim := { program := "ytpabbpcklgipnaa", sum := "9b2bab7cfc36c6beed48ad2a04ecafbd4e206a9a901a3e4ee75e0db983e12098", func := "monocoque/monocoquelaw32.LifeStarts", spec := "lifeStarts", apart := false }
def LifeStartsSaid : Prop := lifeStartsRow.holds Try.pinned (OpenSpec.ofChange lifeStartsSpec)

/-- ITS FALSE NEIGHBOUR: 'it returns false'. Refute it at one input. -/
def lifeStartsWrong : ChangeSpec := { name := "lifeStarts", fn := fun _ => fun
  | [d1, d2] => { results := [.lit (.bool false)], args := [d1, d2] }
  | _ => none }
def LifeStartsWrongFalsely : Prop := lifeStartsRow.holds Try.pinned (OpenSpec.ofChange lifeStartsWrong)

/-- 'monocoquelaw32.LifeActs': WHATEVER THE INPUT: true; the input reads as it did. -/
def lifeActsSpec : ChangeSpec := { name := "lifeActs", fn := fun _ => fun
  | [d1, d2] => { results := [.lit (.bool true)], args := [d1, d2] }
  | _ => none }
def lifeActsRow : OpenClaim := { program := "ytpabbpcklgipnaa", sum := "9b2bab7cfc36c6beed48ad2a04ecafbd4e206a9a901a3e4ee75e0db983e12098", func := "monocoque/monocoquelaw32.LifeActs", spec := "lifeActs", apart := false }
def LifeActsSaid : Prop := lifeActsRow.holds Try.pinned (OpenSpec.ofChange lifeActsSpec)

/-- ITS FALSE NEIGHBOUR: 'it returns false'. Refute it at one input. -/
def lifeActsWrong : ChangeSpec := { name := "lifeActs", fn := fun _ => fun
  | [d1, d2] => { results := [.lit (.bool false)], args := [d1, d2] }
  | _ => none }
def LifeActsWrongFalsely : Prop := lifeActsRow.holds Try.pinned (OpenSpec.ofChange lifeActsWrong)

/-- 'monocoquelaw32.LifeRefused': WHATEVER THE INPUT: true; the input reads as it did. -/
def lifeRefusedSpec : ChangeSpec := { name := "lifeRefused", fn := fun _ => fun
  | [d1, d2, d3] => { results := [.lit (.bool true)], args := [d1, d2, d3] }
  | _ => none }
def lifeRefusedRow : OpenClaim := { program := "ytpabbpcklgipnaa", sum := "9b2bab7cfc36c6beed48ad2a04ecafbd4e206a9a901a3e4ee75e0db983e12098", func := "monocoque/monocoquelaw32.LifeRefused", spec := "lifeRefused", apart := false }
def LifeRefusedSaid : Prop := lifeRefusedRow.holds Try.pinned (OpenSpec.ofChange lifeRefusedSpec)

/-- ITS FALSE NEIGHBOUR: 'it returns false'. Refute it at one input. -/
def lifeRefusedWrong : ChangeSpec := { name := "lifeRefused", fn := fun _ => fun
  | [d1, d2, d3] => { results := [.lit (.bool false)], args := [d1, d2, d3] }
  | _ => none }
def LifeRefusedWrongFalsely : Prop := lifeRefusedRow.holds Try.pinned (OpenSpec.ofChange lifeRefusedWrong)

/-- 'monocoquelaw32.LifeNews': WHATEVER THE INPUT: true; the input reads as it did. -/
def lifeNewsSpec : ChangeSpec := { name := "lifeNews", fn := fun _ => fun
  | [d] => { results := [.lit (.bool true)], args := [d] }
  | _ => none }
def lifeNewsRow : OpenClaim := { program := "ytpabbpcklgipnaa", sum := "9b2bab7cfc36c6beed48ad2a04ecafbd4e206a9a901a3e4ee75e0db983e12098", func := "monocoque/monocoquelaw32.LifeNews", spec := "lifeNews", apart := false }
def LifeNewsSaid : Prop := lifeNewsRow.holds Try.pinned (OpenSpec.ofChange lifeNewsSpec)

/-- ITS FALSE NEIGHBOUR: 'it returns false'. Refute it at one input. -/
def lifeNewsWrong : ChangeSpec := { name := "lifeNews", fn := fun _ => fun
  | [d] => { results := [.lit (.bool false)], args := [d] }
  | _ => none }
def LifeNewsWrongFalsely : Prop := lifeNewsRow.holds Try.pinned (OpenSpec.ofChange lifeNewsWrong)

/-- 'monocoquelaw32.LifeClones': WHATEVER THE INPUT: true; the input reads as it did. -/
def lifeClonesSpec : ChangeSpec := { name := "lifeClones", fn := fun _ => fun
  | [d1, d2, d3] => { results := [.lit (.bool true)], args := [d1, d2, d3] }
  | _ => none }
def lifeClonesRow : OpenClaim := { program := "ytpabbpcklgipnaa", sum := "9b2bab7cfc36c6beed48ad2a04ecafbd4e206a9a901a3e4ee75e0db983e12098", func := "monocoque/monocoquelaw32.LifeClones", spec := "lifeClones", apart := false }
def LifeClonesSaid : Prop := lifeClonesRow.holds Try.pinned (OpenSpec.ofChange lifeClonesSpec)

/-- ITS FALSE NEIGHBOUR: 'it returns false'. Refute it at one input. -/
def lifeClonesWrong : ChangeSpec := { name := "lifeClones", fn := fun _ => fun
  | [d1, d2, d3] => { results := [.lit (.bool false)], args := [d1, d2, d3] }
  | _ => none }
def LifeClonesWrongFalsely : Prop := lifeClonesRow.holds Try.pinned (OpenSpec.ofChange lifeClonesWrong)

/- THE SECOND FORM. 'bulk': how many values and letters a reading holds, each counted each time it is reached (what is shared counts as often as it is met; a slice's spare places count too). A statement '..UptoSaid' is the law's where the arguments, and the package variables that the reading takes, are together of bulk at most 1048576: NARROWER than '..Said'. Prove '..Said' where nothing that the law and all that it calls make is longer than what came in: it says more and counts as full. Else prove '..UptoSaid'. A law counts once. -/
mutual
def uptoBulk {H : Type} : DataW H → Nat
  | .lit (.string bytes) => bytes.length + 1
  | .lit _ => 1
  | .nil => 1
  | .ptr d => uptoBulk d + 1
  | .slice elems spare => uptoBulkAll elems + uptoBulkAll spare + 1
  | .agg parts => uptoBulkAll parts + 1
  | .iface _ d => uptoBulk d + 1
  | .map entries => uptoBulkEntries entries + 1
  | .held _ => 1
def uptoBulkAll {H : Type} : List (DataW H) → Nat
  | [] => 0
  | d :: r => uptoBulk d + uptoBulkAll r
def uptoBulkEntries {H : Type} : List (Lit × DataW H) → Nat
  | [] => 0
  | x :: r => uptoBulkEntry x + uptoBulkEntries r
def uptoBulkEntry {H : Type} : Lit × DataW H → Nat
  | (.string bytes, d) => bytes.length + uptoBulk d + 1
  | (_, d) => uptoBulk d + 1
 end
def uptoSmall : (H : Type) → List (DataW H) → Bool := fun _ ds => decide (uptoBulkAll ds ≤ 1048576)
def OpenSpec.upto (s : _root_.Go.ChangeSpec) : _root_.Go.OpenSpec := { _root_.Go.OpenSpec.ofChange s with cond := some uptoSmall }

/-- 'monocoquelaw30.BudgetBound', WHERE WHAT IT READS IS OF BULK AT MOST 1048576: true; the input reads as it did. -/
def budgetBoundUptoRow : OpenClaim := { program := "ytpabbpcklgipnaa", sum := "9b2bab7cfc36c6beed48ad2a04ecafbd4e206a9a901a3e4ee75e0db983e12098", func := "monocoque/monocoquelaw30.BudgetBound", spec := "budgetBound", apart := false, narrowed := true }
def BudgetBoundUptoSaid : Prop := budgetBoundUptoRow.holds Try.pinned (OpenSpec.upto budgetBoundSpec)

/-- 'monocoquelaw30.BudgetGives', WHERE WHAT IT READS IS OF BULK AT MOST 1048576: true; the input reads as it did. -/
def budgetGivesUptoRow : OpenClaim := { program := "ytpabbpcklgipnaa", sum := "9b2bab7cfc36c6beed48ad2a04ecafbd4e206a9a901a3e4ee75e0db983e12098", func := "monocoque/monocoquelaw30.BudgetGives", spec := "budgetGives", apart := false, narrowed := true }
def BudgetGivesUptoSaid : Prop := budgetGivesUptoRow.holds Try.pinned (OpenSpec.upto budgetGivesSpec)

/-- 'monocoquelaw30.BudgetMoves', WHERE WHAT IT READS IS OF BULK AT MOST 1048576: true; the input reads as it did. -/
def budgetMovesUptoRow : OpenClaim := { program := "ytpabbpcklgipnaa", sum := "9b2bab7cfc36c6beed48ad2a04ecafbd4e206a9a901a3e4ee75e0db983e12098", func := "monocoque/monocoquelaw30.BudgetMoves", spec := "budgetMoves", apart := false, narrowed := true }
def BudgetMovesUptoSaid : Prop := budgetMovesUptoRow.holds Try.pinned (OpenSpec.upto budgetMovesSpec)

/-- 'monocoquelaw30.BudgetParts', WHERE WHAT IT READS IS OF BULK AT MOST 1048576: true; the input reads as it did. -/
def budgetPartsUptoRow : OpenClaim := { program := "ytpabbpcklgipnaa", sum := "9b2bab7cfc36c6beed48ad2a04ecafbd4e206a9a901a3e4ee75e0db983e12098", func := "monocoque/monocoquelaw30.BudgetParts", spec := "budgetParts", apart := false, narrowed := true }
def BudgetPartsUptoSaid : Prop := budgetPartsUptoRow.holds Try.pinned (OpenSpec.upto budgetPartsSpec)

/-- 'monocoquelaw30.BudgetPlays', WHERE WHAT IT READS IS OF BULK AT MOST 1048576: true; the input reads as it did. -/
def budgetPlaysUptoRow : OpenClaim := { program := "ytpabbpcklgipnaa", sum := "9b2bab7cfc36c6beed48ad2a04ecafbd4e206a9a901a3e4ee75e0db983e12098", func := "monocoque/monocoquelaw30.BudgetPlays", spec := "budgetPlays", apart := false, narrowed := true }
def BudgetPlaysUptoSaid : Prop := budgetPlaysUptoRow.holds Try.pinned (OpenSpec.upto budgetPlaysSpec)

/-- 'monocoquelaw30.BudgetNil', WHERE WHAT IT READS IS OF BULK AT MOST 1048576: true; the input reads as it did. -/
def budgetNilUptoRow : OpenClaim := { program := "ytpabbpcklgipnaa", sum := "9b2bab7cfc36c6beed48ad2a04ecafbd4e206a9a901a3e4ee75e0db983e12098", func := "monocoque/monocoquelaw30.BudgetNil", spec := "budgetNil", apart := false, narrowed := true }
def BudgetNilUptoSaid : Prop := budgetNilUptoRow.holds Try.pinned (OpenSpec.upto budgetNilSpec)

/-- 'monocoquelaw32.LifeBounds', WHERE WHAT IT READS IS OF BULK AT MOST 1048576: true; the input reads as it did. -/
def lifeBoundsUptoRow : OpenClaim := { program := "ytpabbpcklgipnaa", sum := "9b2bab7cfc36c6beed48ad2a04ecafbd4e206a9a901a3e4ee75e0db983e12098", func := "monocoque/monocoquelaw32.LifeBounds", spec := "lifeBounds", apart := false, narrowed := true }
def LifeBoundsUptoSaid : Prop := lifeBoundsUptoRow.holds Try.pinned (OpenSpec.upto lifeBoundsSpec)

/-- 'monocoquelaw32.LifeStarts', WHERE WHAT IT READS IS OF BULK AT MOST 1048576: true; the input reads as it did. -/
def lifeStartsUptoRow : OpenClaim := { program := "ytpabbpcklgipnaa", sum := "9b2bab7cfc36c6beed48ad2a04ecafbd4e206a9a901a3e4ee75e0db983e12098", func := "monocoque/monocoquelaw32.LifeStarts", spec := "lifeStarts", apart := false, narrowed := true }
def LifeStartsUptoSaid : Prop := lifeStartsUptoRow.holds Try.pinned (OpenSpec.upto lifeStartsSpec)

/-- 'monocoquelaw32.LifeActs', WHERE WHAT IT READS IS OF BULK AT MOST 1048576: true; the input reads as it did. -/
def lifeActsUptoRow : OpenClaim := { program := "ytpabbpcklgipnaa", sum := "9b2bab7cfc36c6beed48ad2a04ecafbd4e206a9a901a3e4ee75e0db983e12098", func := "monocoque/monocoquelaw32.LifeActs", spec := "lifeActs", apart := false, narrowed := true }
def LifeActsUptoSaid : Prop := lifeActsUptoRow.holds Try.pinned (OpenSpec.upto lifeActsSpec)

/-- 'monocoquelaw32.LifeRefused', WHERE WHAT IT READS IS OF BULK AT MOST 1048576: true; the input reads as it did. -/
def lifeRefusedUptoRow : OpenClaim := { program := "ytpabbpcklgipnaa", sum := "9b2bab7cfc36c6beed48ad2a04ecafbd4e206a9a901a3e4ee75e0db983e12098", func := "monocoque/monocoquelaw32.LifeRefused", spec := "lifeRefused", apart := false, narrowed := true }
def LifeRefusedUptoSaid : Prop := lifeRefusedUptoRow.holds Try.pinned (OpenSpec.upto lifeRefusedSpec)

/-- 'monocoquelaw32.LifeNews', WHERE WHAT IT READS IS OF BULK AT MOST 1048576: true; the input reads as it did. -/
def lifeNewsUptoRow : OpenClaim := { program := "ytpabbpcklgipnaa", sum := "9b2bab7cfc36c6beed48ad2a04ecafbd4e206a9a901a3e4ee75e0db983e12098", func := "monocoque/monocoquelaw32.LifeNews", spec := "lifeNews", apart := false, narrowed := true }
def LifeNewsUptoSaid : Prop := lifeNewsUptoRow.holds Try.pinned (OpenSpec.upto lifeNewsSpec)

/-- 'monocoquelaw32.LifeClones', WHERE WHAT IT READS IS OF BULK AT MOST 1048576: true; the input reads as it did. -/
def lifeClonesUptoRow : OpenClaim := { program := "ytpabbpcklgipnaa", sum := "9b2bab7cfc36c6beed48ad2a04ecafbd4e206a9a901a3e4ee75e0db983e12098", func := "monocoque/monocoquelaw32.LifeClones", spec := "lifeClones", apart := false, narrowed := true }
def LifeClonesUptoSaid : Prop := lifeClonesUptoRow.holds Try.pinned (OpenSpec.upto lifeClonesSpec)

end Rows
end Go.Proofs.Ytpabbpcklgipnaa
