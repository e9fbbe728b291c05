/-
  No cell of these rows narrows 'for every input' (looked for: loops, veiled, ifaces, maps, wideKeys, modest, calm, conditions, laid).
  DERIVED. THE GIVEN ROWS OF THIS SEAT. 6 by the template 'for every input the law returns true; each argument reads behind the call as it read before'; 0 by the template 'total and deterministic' (their statements: YtijakklhklcjhaaTotals.lean).
  GIVEN WITH THE SEED: the statements are not yours to turn. If you find one false, say at which input.
  Laid BY PROGRAM, IN A SANDBOX (cutbox-rows.mjs): the forced cells as the released guide's own fill.sh prints them over the translation 92ede4fb23355a03… (all of the seat's roots in one cut). By AI agents, Wed Nov 11 2026. No macro, syntax, notation, axiom, sorry.
-/
import Derived.Test.YtijakklhklcjhaaChecked
import GoSem.Claim
import GoSem.ClaimJoined
import GoSem.ClaimMapViews
import Derived.JoinedTies
import Derived.KernelRfl
namespace Go.Proofs.Ytijakklhklcjhaa
/- THE CELL 'sum', in the pinned program and in every row, IS THE sha256 OF THE DUMP (.gsa) THAT YtijakklhklcjhaaProg.lean LOADS. Nothing in Lean hashes anything: it is a label: what it is worth is what the hold of that sum in a sandbox is worth. -/
noncomputable def Try.pinned : Pinned := { name := "ytijakklhklcjhaa", sum := "92ede4fb23355a03cf1d268fb9bf3e4346e3e2bbaafb566e8d816f8405b63e84", checked := Try.checked }
namespace Rows
def none {H : Type} : Left H := { results := [], args := [] }

/-- 'monocoquelaw33.CallsBounds': WHATEVER THE INPUT: true; the input reads as it did. -/
def callsBoundsSpec : ChangeSpec := { name := "callsBounds", fn := fun _ => fun
  | [d1, d2, d3] => { results := [.lit (.bool true)], args := [d1, d2, d3] }
  | _ => none }
def callsBoundsRow : OpenClaim := { program := "ytijakklhklcjhaa", sum := "92ede4fb23355a03cf1d268fb9bf3e4346e3e2bbaafb566e8d816f8405b63e84", func := "monocoque/monocoquelaw33.CallsBounds", spec := "callsBounds", apart := false }
def CallsBoundsSaid : Prop := callsBoundsRow.holds Try.pinned (OpenSpec.ofChange callsBoundsSpec)

/-- ITS FALSE NEIGHBOUR: 'it returns false'. Refute it at one input. -/
def callsBoundsWrong : ChangeSpec := { name := "callsBounds", fn := fun _ => fun
  | [d1, d2, d3] => { results := [.lit (.bool false)], args := [d1, d2, d3] }
  | _ => none }
def CallsBoundsWrongFalsely : Prop := callsBoundsRow.holds Try.pinned (OpenSpec.ofChange callsBoundsWrong)

/-- 'monocoquelaw33.CallsDear': WHATEVER THE INPUT: true; the input reads as it did. -/
def callsDearSpec : ChangeSpec := { name := "callsDear", fn := fun _ => fun
  | [d1, d2] => { results := [.lit (.bool true)], args := [d1, d2] }
  | _ => none }
def callsDearRow : OpenClaim := { program := "ytijakklhklcjhaa", sum := "92ede4fb23355a03cf1d268fb9bf3e4346e3e2bbaafb566e8d816f8405b63e84", func := "monocoque/monocoquelaw33.CallsDear", spec := "callsDear", apart := false }
def CallsDearSaid : Prop := callsDearRow.holds Try.pinned (OpenSpec.ofChange callsDearSpec)

/-- ITS FALSE NEIGHBOUR: 'it returns false'. Refute it at one input. -/
def callsDearWrong : ChangeSpec := { name := "callsDear", fn := fun _ => fun
  | [d1, d2] => { results := [.lit (.bool false)], args := [d1, d2] }
  | _ => none }
def CallsDearWrongFalsely : Prop := callsDearRow.holds Try.pinned (OpenSpec.ofChange callsDearWrong)

/-- 'monocoquelaw33.CallsOthers': WHATEVER THE INPUT: true; the input reads as it did. -/
def callsOthersSpec : ChangeSpec := { name := "callsOthers", fn := fun _ => fun
  | [d1, d2, d3, d4] => { results := [.lit (.bool true)], args := [d1, d2, d3, d4] }
  | _ => none }
def callsOthersRow : OpenClaim := { program := "ytijakklhklcjhaa", sum := "92ede4fb23355a03cf1d268fb9bf3e4346e3e2bbaafb566e8d816f8405b63e84", func := "monocoque/monocoquelaw33.CallsOthers", spec := "callsOthers", apart := false }
def CallsOthersSaid : Prop := callsOthersRow.holds Try.pinned (OpenSpec.ofChange callsOthersSpec)

/-- ITS FALSE NEIGHBOUR: 'it returns false'. Refute it at one input. -/
def callsOthersWrong : ChangeSpec := { name := "callsOthers", fn := fun _ => fun
  | [d1, d2, d3, d4] => { results := [.lit (.bool false)], args := [d1, d2, d3, d4] }
  | _ => none }
def CallsOthersWrongFalsely : Prop := callsOthersRow.holds Try.pinned (OpenSpec.ofChange callsOthersWrong)

/-- 'monocoquelaw33.CallsDecodes': WHATEVER THE INPUT: true; the input reads as it did. -/
def callsDecodesSpec : ChangeSpec := { name := "callsDecodes", fn := fun _ => fun
  | [d1, d2, d3] => { results := [.lit (.bool true)], args := [d1, d2, d3] }
  | _ => none }
def callsDecodesRow : OpenClaim := { program := "ytijakklhklcjhaa", sum := "92ede4fb23355a03cf1d268fb9bf3e4346e3e2bbaafb566e8d816f8405b63e84", func := "monocoque/monocoquelaw33.CallsDecodes", spec := "callsDecodes", apart := false }
def CallsDecodesSaid : Prop := callsDecodesRow.holds Try.pinned (OpenSpec.ofChange callsDecodesSpec)

/-- ITS FALSE NEIGHBOUR: 'it returns false'. Refute it at one input. -/
def callsDecodesWrong : ChangeSpec := { name := "callsDecodes", fn := fun _ => fun
  | [d1, d2, d3] => { results := [.lit (.bool false)], args := [d1, d2, d3] }
  | _ => none }
def CallsDecodesWrongFalsely : Prop := callsDecodesRow.holds Try.pinned (OpenSpec.ofChange callsDecodesWrong)

/-- 'monocoquelaw33.CallsEncodes': WHATEVER THE INPUT: true; the input reads as it did. -/
def callsEncodesSpec : ChangeSpec := { name := "callsEncodes", fn := fun _ => fun
  | [d1, d2] => { results := [.lit (.bool true)], args := [d1, d2] }
  | _ => none }
def callsEncodesRow : OpenClaim := { program := "ytijakklhklcjhaa", sum := "92ede4fb23355a03cf1d268fb9bf3e4346e3e2bbaafb566e8d816f8405b63e84", func := "monocoque/monocoquelaw33.CallsEncodes", spec := "callsEncodes", apart := false }
def CallsEncodesSaid : Prop := callsEncodesRow.holds Try.pinned (OpenSpec.ofChange callsEncodesSpec)

/-- ITS FALSE NEIGHBOUR: 'it returns false'. Refute it at one input. -/
def callsEncodesWrong : ChangeSpec := { name := "callsEncodes", fn := fun _ => fun
  | [d1, d2] => { results := [.lit (.bool false)], args := [d1, d2] }
  | _ => none }
def CallsEncodesWrongFalsely : Prop := callsEncodesRow.holds Try.pinned (OpenSpec.ofChange callsEncodesWrong)

/-- 'monocoquelaw33.CallsWords': WHATEVER THE INPUT: true; the input reads as it did. -/
def callsWordsSpec : ChangeSpec := { name := "callsWords", fn := fun _ => fun
  | [d1, d2] => { results := [.lit (.bool true)], args := [d1, d2] }
  | _ => none }
def callsWordsRow : OpenClaim := { program := "ytijakklhklcjhaa", sum := "92ede4fb23355a03cf1d268fb9bf3e4346e3e2bbaafb566e8d816f8405b63e84", func := "monocoque/monocoquelaw33.CallsWords", spec := "callsWords", apart := false }
def CallsWordsSaid : Prop := callsWordsRow.holds Try.pinned (OpenSpec.ofChange callsWordsSpec)

/-- ITS FALSE NEIGHBOUR: 'it returns false'. Refute it at one input. -/
def callsWordsWrong : ChangeSpec := { name := "callsWords", fn := fun _ => fun
  | [d1, d2] => { results := [.lit (.bool false)], args := [d1, d2] }
  | _ => none }
def CallsWordsWrongFalsely : Prop := callsWordsRow.holds Try.pinned (OpenSpec.ofChange callsWordsWrong)

/- THE SECOND FORM. 'bulk': how many values and letters a reading holds, each counted each time it is reached (what is shared counts as often as it is met; a slice's spare places count too). A statement '..UptoSaid' is the law's where the arguments, and the package variables that the reading takes, are together of bulk at most 1048576: NARROWER than '..Said'. Prove '..Said' where nothing that the law and all that it calls make is longer than what came in: it says more and counts as full. Else prove '..UptoSaid'. A law counts once. -/
mutual
def uptoBulk {H : Type} : DataW H → Nat
  | .lit (.string bytes) => bytes.length + 1
  | .lit _ => 1
  | .nil => 1
  | .ptr d => uptoBulk d + 1
  | .slice elems spare => uptoBulkAll elems + uptoBulkAll spare + 1
  | .agg parts => uptoBulkAll parts + 1
  | .iface _ d => uptoBulk d + 1
  | .map entries => uptoBulkEntries entries + 1
  | .held _ => 1
def uptoBulkAll {H : Type} : List (DataW H) → Nat
  | [] => 0
  | d :: r => uptoBulk d + uptoBulkAll r
def uptoBulkEntries {H : Type} : List (Lit × DataW H) → Nat
  | [] => 0
  | x :: r => uptoBulkEntry x + uptoBulkEntries r
def uptoBulkEntry {H : Type} : Lit × DataW H → Nat
  | (.string bytes, d) => bytes.length + uptoBulk d + 1
  | (_, d) => uptoBulk d + 1
 end
def uptoSmall : (H : Type) → List (DataW H) → Bool := fun _ ds => decide (uptoBulkAll ds ≤ 1048576)
def OpenSpec.upto (s : _root_.Go.ChangeSpec) : _root_.Go.OpenSpec := { _root_.Go.OpenSpec.ofChange s with cond := some uptoSmall }

/-- 'monocoquelaw33.CallsBounds', WHERE WHAT IT READS IS OF BULK AT MOST 1048576: true; the input reads as it did. -/
def callsBoundsUptoRow : OpenClaim := { program := "ytijakklhklcjhaa", sum := "92ede4fb23355a03cf1d268fb9bf3e4346e3e2bbaafb566e8d816f8405b63e84", func := "monocoque/monocoquelaw33.CallsBounds", spec := "callsBounds", apart := false, narrowed := true }
def CallsBoundsUptoSaid : Prop := callsBoundsUptoRow.holds Try.pinned (OpenSpec.upto callsBoundsSpec)

/-- 'monocoquelaw33.CallsDear', WHERE WHAT IT READS IS OF BULK AT MOST 1048576: true; the input reads as it did. -/
def callsDearUptoRow : OpenClaim := { program := "ytijakklhklcjhaa", sum := "92ede4fb23355a03cf1d268fb9bf3e4346e3e2bbaafb566e8d816f8405b63e84", func := "monocoque/monocoquelaw33.CallsDear", spec := "callsDear", apart := false, narrowed := true }
def CallsDearUptoSaid : Prop := callsDearUptoRow.holds Try.pinned (OpenSpec.upto callsDearSpec)

/-- 'monocoquelaw33.CallsOthers', WHERE WHAT IT READS IS OF BULK AT MOST 1048576: true; the input reads as it did. -/
def callsOthersUptoRow : OpenClaim := { program := "ytijakklhklcjhaa", sum := "92ede4fb23355a03cf1d268fb9bf3e4346e3e2bbaafb566e8d816f8405b63e84", func := "monocoque/monocoquelaw33.CallsOthers", spec := "callsOthers", apart := false, narrowed := true }
def CallsOthersUptoSaid : Prop := callsOthersUptoRow.holds Try.pinned (OpenSpec.upto callsOthersSpec)

/-- 'monocoquelaw33.CallsDecodes', WHERE WHAT IT READS IS OF BULK AT MOST 1048576: true; the input reads as it did. -/
def callsDecodesUptoRow : OpenClaim := { program := "ytijakklhklcjhaa", sum := "92ede4fb23355a03cf1d268fb9bf3e4346e3e2bbaafb566e8d816f8405b63e84", func := "monocoque/monocoquelaw33.CallsDecodes", spec := "callsDecodes", apart := false, narrowed := true }
def CallsDecodesUptoSaid : Prop := callsDecodesUptoRow.holds Try.pinned (OpenSpec.upto callsDecodesSpec)

/-- 'monocoquelaw33.CallsEncodes', WHERE WHAT IT READS IS OF BULK AT MOST 1048576: true; the input reads as it did. -/
def callsEncodesUptoRow : OpenClaim := { program := "ytijakklhklcjhaa", sum := "92ede4fb23355a03cf1d268fb9bf3e4346e3e2bbaafb566e8d816f8405b63e84", func := "monocoque/monocoquelaw33.CallsEncodes", spec := "callsEncodes", apart := false, narrowed := true }
def CallsEncodesUptoSaid : Prop := callsEncodesUptoRow.holds Try.pinned (OpenSpec.upto callsEncodesSpec)

/-- 'monocoquelaw33.CallsWords', WHERE WHAT IT READS IS OF BULK AT MOST 1048576: true; the input reads as it did. -/
def callsWordsUptoRow : OpenClaim := { program := "ytijakklhklcjhaa", sum := "92ede4fb23355a03cf1d268fb9bf3e4346e3e2bbaafb566e8d816f8405b63e84", func := "monocoque/monocoquelaw33.CallsWords", spec := "callsWords", apart := false, narrowed := true }
def CallsWordsUptoSaid : Prop := callsWordsUptoRow.holds Try.pinned (OpenSpec.upto callsWordsSpec)

end Rows
end Go.Proofs.Ytijakklhklcjhaa
