/-
  No cell of these rows narrows 'for every input' (looked for: loops, veiled, ifaces, maps, wideKeys, modest, calm, conditions, laid).
  DERIVED. THE GIVEN ROWS OF THIS SEAT. 9 by the template 'for every input the law returns true; each argument reads behind the call as it read before'; 0 by the template 'total and deterministic' (their statements: YtpmibpleijnpcaaTotals.lean).
  GIVEN WITH THE SEED: the statements are not yours to turn. If you find one false, say at which input.
  Laid BY PROGRAM, IN A SANDBOX (cutbox-rows.mjs): the forced cells as the released guide's own fill.sh prints them over the translation e15ee82f69715637… (all of the seat's roots in one cut). By AI agents, Wed Nov 11 2026. No macro, syntax, notation, axiom, sorry.
-/
import Derived.Test.YtpmibpleijnpcaaChecked
import GoSem.Claim
import GoSem.ClaimJoined
import GoSem.ClaimMapViews
import Derived.JoinedTies
import Derived.KernelRfl
namespace Go.Proofs.Ytpmibpleijnpcaa
/- THE CELL 'sum', in the pinned program and in every row, IS THE sha256 OF THE DUMP (.gsa) THAT YtpmibpleijnpcaaProg.lean LOADS. Nothing in Lean hashes anything: it is a label: what it is worth is what the hold of that sum in a sandbox is worth. -/
noncomputable def Try.pinned : Pinned := { name := "ytpmibpleijnpcaa", sum := "e15ee82f69715637875414fdb43b13804860937a11b4d419b43392037743e29f", checked := Try.checked }
namespace Rows
def none {H : Type} : Left H := { results := [], args := [] }

/-- 'armoirelaw01.CodecTexts': WHATEVER THE INPUT: true; the input reads as it did. -/
def codecTextsSpec : ChangeSpec := { name := "codecTexts", fn := fun _ => fun
  | [d1, d2] => { results := [.lit (.bool true)], args := [d1, d2] }
  | _ => none }
def codecTextsRow : OpenClaim := { program := "ytpmibpleijnpcaa", sum := "e15ee82f69715637875414fdb43b13804860937a11b4d419b43392037743e29f", func := "armoire/armoirelaw01.CodecTexts", spec := "codecTexts", apart := false }
def CodecTextsSaid : Prop := codecTextsRow.holds Try.pinned (OpenSpec.ofChange codecTextsSpec)

/-- ITS FALSE NEIGHBOUR: 'it returns false'. Refute it at one input. -/
def codecTextsWrong : ChangeSpec := { name := "codecTexts", fn := fun _ => fun
  | [d1, d2] => { results := [.lit (.bool false)], args := [d1, d2] }
  | _ => none }
def CodecTextsWrongFalsely : Prop := codecTextsRow.holds Try.pinned (OpenSpec.ofChange codecTextsWrong)

/-- 'armoirelaw01.CodecTextBack': WHATEVER THE INPUT: true; the input reads as it did. -/
def codecTextBackSpec : ChangeSpec := { name := "codecTextBack", fn := fun _ => fun
  | [d1, d2] => { results := [.lit (.bool true)], args := [d1, d2] }
  | _ => none }
def codecTextBackRow : OpenClaim := { program := "ytpmibpleijnpcaa", sum := "e15ee82f69715637875414fdb43b13804860937a11b4d419b43392037743e29f", func := "armoire/armoirelaw01.CodecTextBack", spec := "codecTextBack", apart := false }
def CodecTextBackSaid : Prop := codecTextBackRow.holds Try.pinned (OpenSpec.ofChange codecTextBackSpec)

/-- ITS FALSE NEIGHBOUR: 'it returns false'. Refute it at one input. -/
def codecTextBackWrong : ChangeSpec := { name := "codecTextBack", fn := fun _ => fun
  | [d1, d2] => { results := [.lit (.bool false)], args := [d1, d2] }
  | _ => none }
def CodecTextBackWrongFalsely : Prop := codecTextBackRow.holds Try.pinned (OpenSpec.ofChange codecTextBackWrong)

/-- 'armoirelaw01.CodecNumbers': WHATEVER THE INPUT: true; the input reads as it did. -/
def codecNumbersSpec : ChangeSpec := { name := "codecNumbers", fn := fun _ => fun
  | [d1, d2, d3] => { results := [.lit (.bool true)], args := [d1, d2, d3] }
  | _ => none }
def codecNumbersRow : OpenClaim := { program := "ytpmibpleijnpcaa", sum := "e15ee82f69715637875414fdb43b13804860937a11b4d419b43392037743e29f", func := "armoire/armoirelaw01.CodecNumbers", spec := "codecNumbers", apart := false }
def CodecNumbersSaid : Prop := codecNumbersRow.holds Try.pinned (OpenSpec.ofChange codecNumbersSpec)

/-- ITS FALSE NEIGHBOUR: 'it returns false'. Refute it at one input. -/
def codecNumbersWrong : ChangeSpec := { name := "codecNumbers", fn := fun _ => fun
  | [d1, d2, d3] => { results := [.lit (.bool false)], args := [d1, d2, d3] }
  | _ => none }
def CodecNumbersWrongFalsely : Prop := codecNumbersRow.holds Try.pinned (OpenSpec.ofChange codecNumbersWrong)

/-- 'armoirelaw01.CodecBack': WHATEVER THE INPUT: true; the input reads as it did. -/
def codecBackSpec : ChangeSpec := { name := "codecBack", fn := fun _ => fun
  | [d1, d2, d3] => { results := [.lit (.bool true)], args := [d1, d2, d3] }
  | _ => none }
def codecBackRow : OpenClaim := { program := "ytpmibpleijnpcaa", sum := "e15ee82f69715637875414fdb43b13804860937a11b4d419b43392037743e29f", func := "armoire/armoirelaw01.CodecBack", spec := "codecBack", apart := false }
def CodecBackSaid : Prop := codecBackRow.holds Try.pinned (OpenSpec.ofChange codecBackSpec)

/-- ITS FALSE NEIGHBOUR: 'it returns false'. Refute it at one input. -/
def codecBackWrong : ChangeSpec := { name := "codecBack", fn := fun _ => fun
  | [d1, d2, d3] => { results := [.lit (.bool false)], args := [d1, d2, d3] }
  | _ => none }
def CodecBackWrongFalsely : Prop := codecBackRow.holds Try.pinned (OpenSpec.ofChange codecBackWrong)

/-- 'armoirelaw01.CodecOrder': WHATEVER THE INPUT: true; the input reads as it did. -/
def codecOrderSpec : ChangeSpec := { name := "codecOrder", fn := fun _ => fun
  | [d1, d2, d3] => { results := [.lit (.bool true)], args := [d1, d2, d3] }
  | _ => none }
def codecOrderRow : OpenClaim := { program := "ytpmibpleijnpcaa", sum := "e15ee82f69715637875414fdb43b13804860937a11b4d419b43392037743e29f", func := "armoire/armoirelaw01.CodecOrder", spec := "codecOrder", apart := false }
def CodecOrderSaid : Prop := codecOrderRow.holds Try.pinned (OpenSpec.ofChange codecOrderSpec)

/-- ITS FALSE NEIGHBOUR: 'it returns false'. Refute it at one input. -/
def codecOrderWrong : ChangeSpec := { name := "codecOrder", fn := fun _ => fun
  | [d1, d2, d3] => { results := [.lit (.bool false)], args := [d1, d2, d3] }
  | _ => none }
def CodecOrderWrongFalsely : Prop := codecOrderRow.holds Try.pinned (OpenSpec.ofChange codecOrderWrong)

/-- 'armoirelaw01.CodecCuts': WHATEVER THE INPUT: true; the input reads as it did. -/
def codecCutsSpec : ChangeSpec := { name := "codecCuts", fn := fun _ => fun
  | [d1, d2] => { results := [.lit (.bool true)], args := [d1, d2] }
  | _ => none }
def codecCutsRow : OpenClaim := { program := "ytpmibpleijnpcaa", sum := "e15ee82f69715637875414fdb43b13804860937a11b4d419b43392037743e29f", func := "armoire/armoirelaw01.CodecCuts", spec := "codecCuts", apart := false }
def CodecCutsSaid : Prop := codecCutsRow.holds Try.pinned (OpenSpec.ofChange codecCutsSpec)

/-- ITS FALSE NEIGHBOUR: 'it returns false'. Refute it at one input. -/
def codecCutsWrong : ChangeSpec := { name := "codecCuts", fn := fun _ => fun
  | [d1, d2] => { results := [.lit (.bool false)], args := [d1, d2] }
  | _ => none }
def CodecCutsWrongFalsely : Prop := codecCutsRow.holds Try.pinned (OpenSpec.ofChange codecCutsWrong)

/-- 'armoirelaw01.CodecSums': WHATEVER THE INPUT: true; the input reads as it did. -/
def codecSumsSpec : ChangeSpec := { name := "codecSums", fn := fun _ => fun
  | [d] => { results := [.lit (.bool true)], args := [d] }
  | _ => none }
def codecSumsRow : OpenClaim := { program := "ytpmibpleijnpcaa", sum := "e15ee82f69715637875414fdb43b13804860937a11b4d419b43392037743e29f", func := "armoire/armoirelaw01.CodecSums", spec := "codecSums", apart := false }
def CodecSumsSaid : Prop := codecSumsRow.holds Try.pinned (OpenSpec.ofChange codecSumsSpec)

/-- ITS FALSE NEIGHBOUR: 'it returns false'. Refute it at one input. -/
def codecSumsWrong : ChangeSpec := { name := "codecSums", fn := fun _ => fun
  | [d] => { results := [.lit (.bool false)], args := [d] }
  | _ => none }
def CodecSumsWrongFalsely : Prop := codecSumsRow.holds Try.pinned (OpenSpec.ofChange codecSumsWrong)

/-- 'armoirelaw01.CodecSealed': WHATEVER THE INPUT: true; the input reads as it did. -/
def codecSealedSpec : ChangeSpec := { name := "codecSealed", fn := fun _ => fun
  | [d] => { results := [.lit (.bool true)], args := [d] }
  | _ => none }
def codecSealedRow : OpenClaim := { program := "ytpmibpleijnpcaa", sum := "e15ee82f69715637875414fdb43b13804860937a11b4d419b43392037743e29f", func := "armoire/armoirelaw01.CodecSealed", spec := "codecSealed", apart := false }
def CodecSealedSaid : Prop := codecSealedRow.holds Try.pinned (OpenSpec.ofChange codecSealedSpec)

/-- ITS FALSE NEIGHBOUR: 'it returns false'. Refute it at one input. -/
def codecSealedWrong : ChangeSpec := { name := "codecSealed", fn := fun _ => fun
  | [d] => { results := [.lit (.bool false)], args := [d] }
  | _ => none }
def CodecSealedWrongFalsely : Prop := codecSealedRow.holds Try.pinned (OpenSpec.ofChange codecSealedWrong)

/-- 'armoirelaw01.CodecSealCuts': WHATEVER THE INPUT: true; the input reads as it did. -/
def codecSealCutsSpec : ChangeSpec := { name := "codecSealCuts", fn := fun _ => fun
  | [d1, d2] => { results := [.lit (.bool true)], args := [d1, d2] }
  | _ => none }
def codecSealCutsRow : OpenClaim := { program := "ytpmibpleijnpcaa", sum := "e15ee82f69715637875414fdb43b13804860937a11b4d419b43392037743e29f", func := "armoire/armoirelaw01.CodecSealCuts", spec := "codecSealCuts", apart := false }
def CodecSealCutsSaid : Prop := codecSealCutsRow.holds Try.pinned (OpenSpec.ofChange codecSealCutsSpec)

/-- ITS FALSE NEIGHBOUR: 'it returns false'. Refute it at one input. -/
def codecSealCutsWrong : ChangeSpec := { name := "codecSealCuts", fn := fun _ => fun
  | [d1, d2] => { results := [.lit (.bool false)], args := [d1, d2] }
  | _ => none }
def CodecSealCutsWrongFalsely : Prop := codecSealCutsRow.holds Try.pinned (OpenSpec.ofChange codecSealCutsWrong)

/- THE SECOND FORM. 'bulk': how many values and letters a reading holds, each counted each time it is reached (what is shared counts as often as it is met; a slice's spare places count too). A statement '..UptoSaid' is the law's where the arguments, and the package variables that the reading takes, are together of bulk at most 1048576: NARROWER than '..Said'. Prove '..Said' where nothing that the law and all that it calls make is longer than what came in: it says more and counts as full. Else prove '..UptoSaid'. A law counts once. -/
mutual
def uptoBulk {H : Type} : DataW H → Nat
  | .lit (.string bytes) => bytes.length + 1
  | .lit _ => 1
  | .nil => 1
  | .ptr d => uptoBulk d + 1
  | .slice elems spare => uptoBulkAll elems + uptoBulkAll spare + 1
  | .agg parts => uptoBulkAll parts + 1
  | .iface _ d => uptoBulk d + 1
  | .map entries => uptoBulkEntries entries + 1
  | .held _ => 1
def uptoBulkAll {H : Type} : List (DataW H) → Nat
  | [] => 0
  | d :: r => uptoBulk d + uptoBulkAll r
def uptoBulkEntries {H : Type} : List (Lit × DataW H) → Nat
  | [] => 0
  | x :: r => uptoBulkEntry x + uptoBulkEntries r
def uptoBulkEntry {H : Type} : Lit × DataW H → Nat
  | (.string bytes, d) => bytes.length + uptoBulk d + 1
  | (_, d) => uptoBulk d + 1
 end
def uptoSmall : (H : Type) → List (DataW H) → Bool := fun _ ds => decide (uptoBulkAll ds ≤ 1048576)
def OpenSpec.upto (s : _root_.Go.ChangeSpec) : _root_.Go.OpenSpec := { _root_.Go.OpenSpec.ofChange s with cond := some uptoSmall }

/-- 'armoirelaw01.CodecTexts', WHERE WHAT IT READS IS OF BULK AT MOST 1048576: true; the input reads as it did. -/
def codecTextsUptoRow : OpenClaim := { program := "ytpmibpleijnpcaa", sum := "e15ee82f69715637875414fdb43b13804860937a11b4d419b43392037743e29f", func := "armoire/armoirelaw01.CodecTexts", spec := "codecTexts", apart := false, narrowed := true }
def CodecTextsUptoSaid : Prop := codecTextsUptoRow.holds Try.pinned (OpenSpec.upto codecTextsSpec)

/-- 'armoirelaw01.CodecTextBack', WHERE WHAT IT READS IS OF BULK AT MOST 1048576: true; the input reads as it did. -/
def codecTextBackUptoRow : OpenClaim := { program := "ytpmibpleijnpcaa", sum := "e15ee82f69715637875414fdb43b13804860937a11b4d419b43392037743e29f", func := "armoire/armoirelaw01.CodecTextBack", spec := "codecTextBack", apart := false, narrowed := true }
def CodecTextBackUptoSaid : Prop := codecTextBackUptoRow.holds Try.pinned (OpenSpec.upto codecTextBackSpec)

/-- 'armoirelaw01.CodecNumbers', WHERE WHAT IT READS IS OF BULK AT MOST 1048576: true; the input reads as it did. -/
def codecNumbersUptoRow : OpenClaim := { program := "ytpmibpleijnpcaa", sum := "e15ee82f69715637875414fdb43b13804860937a11b4d419b43392037743e29f", func := "armoire/armoirelaw01.CodecNumbers", spec := "codecNumbers", apart := false, narrowed := true }
def CodecNumbersUptoSaid : Prop := codecNumbersUptoRow.holds Try.pinned (OpenSpec.upto codecNumbersSpec)

/-- 'armoirelaw01.CodecBack', WHERE WHAT IT READS IS OF BULK AT MOST 1048576: true; the input reads as it did. -/
def codecBackUptoRow : OpenClaim := { program := "ytpmibpleijnpcaa", sum := "e15ee82f69715637875414fdb43b13804860937a11b4d419b43392037743e29f", func := "armoire/armoirelaw01.CodecBack", spec := "codecBack", apart := false, narrowed := true }
def CodecBackUptoSaid : Prop := codecBackUptoRow.holds Try.pinned (OpenSpec.upto codecBackSpec)

/-- 'armoirelaw01.CodecOrder', WHERE WHAT IT READS IS OF BULK AT MOST 1048576: true; the input reads as it did. -/
def codecOrderUptoRow : OpenClaim := { program := "ytpmibpleijnpcaa", sum := "e15ee82f69715637875414fdb43b13804860937a11b4d419b43392037743e29f", func := "armoire/armoirelaw01.CodecOrder", spec := "codecOrder", apart := false, narrowed := true }
def CodecOrderUptoSaid : Prop := codecOrderUptoRow.holds Try.pinned (OpenSpec.upto codecOrderSpec)

/-- 'armoirelaw01.CodecCuts', WHERE WHAT IT READS IS OF BULK AT MOST 1048576: true; the input reads as it did. -/
def codecCutsUptoRow : OpenClaim := { program := "ytpmibpleijnpcaa", sum := "e15ee82f69715637875414fdb43b13804860937a11b4d419b43392037743e29f", func := "armoire/armoirelaw01.CodecCuts", spec := "codecCuts", apart := false, narrowed := true }
def CodecCutsUptoSaid : Prop := codecCutsUptoRow.holds Try.pinned (OpenSpec.upto codecCutsSpec)

/-- 'armoirelaw01.CodecSums', WHERE WHAT IT READS IS OF BULK AT MOST 1048576: true; the input reads as it did. -/
def codecSumsUptoRow : OpenClaim := { program := "ytpmibpleijnpcaa", sum := "e15ee82f69715637875414fdb43b13804860937a11b4d419b43392037743e29f", func := "armoire/armoirelaw01.CodecSums", spec := "codecSums", apart := false, narrowed := true }
def CodecSumsUptoSaid : Prop := codecSumsUptoRow.holds Try.pinned (OpenSpec.upto codecSumsSpec)

/-- 'armoirelaw01.CodecSealed', WHERE WHAT IT READS IS OF BULK AT MOST 1048576: true; the input reads as it did. -/
def codecSealedUptoRow : OpenClaim := { program := "ytpmibpleijnpcaa", sum := "e15ee82f69715637875414fdb43b13804860937a11b4d419b43392037743e29f", func := "armoire/armoirelaw01.CodecSealed", spec := "codecSealed", apart := false, narrowed := true }
def CodecSealedUptoSaid : Prop := codecSealedUptoRow.holds Try.pinned (OpenSpec.upto codecSealedSpec)

/-- 'armoirelaw01.CodecSealCuts', WHERE WHAT IT READS IS OF BULK AT MOST 1048576: true; the input reads as it did. -/
def codecSealCutsUptoRow : OpenClaim := { program := "ytpmibpleijnpcaa", sum := "e15ee82f69715637875414fdb43b13804860937a11b4d419b43392037743e29f", func := "armoire/armoirelaw01.CodecSealCuts", spec := "codecSealCuts", apart := false, narrowed := true }
def CodecSealCutsUptoSaid : Prop := codecSealCutsUptoRow.holds Try.pinned (OpenSpec.upto codecSealCutsSpec)

end Rows
end Go.Proofs.Ytpmibpleijnpcaa
