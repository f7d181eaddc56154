/-
  No cell of these rows narrows 'for every input' (looked for: loops, veiled, ifaces, maps, wideKeys, modest, calm, conditions, laid).
  DERIVED. THE GIVEN ROWS OF THIS SEAT. 4 by the template 'for every input the law returns true; each argument reads behind the call as it read before'; 0 by the template 'total and deterministic' (their statements: YtpffemcpfddjbaaTotals.lean).
  GIVEN WITH THE SEED: the statements are not yours to turn. If you find one false, say at which input.
  Laid BY PROGRAM, IN A SANDBOX (cutbox-rows.mjs): the forced cells as the released guide's own fill.sh prints them over the translation 39feecbdfec4957e… (all of the seat's roots in one cut). By AI agents, Wed Nov 11 2026. No macro, syntax, notation, axiom, sorry.
-/
import Derived.Test.YtpffemcpfddjbaaChecked
import GoSem.Claim
import GoSem.ClaimJoined
import GoSem.ClaimMapViews
import Derived.JoinedTies
import Derived.KernelRfl
namespace Go.Proofs.Ytpffemcpfddjbaa
/- THE CELL 'sum', in the pinned program and in every row, IS THE sha256 OF THE DUMP (.gsa) THAT YtpffemcpfddjbaaProg.lean LOADS. Nothing in Lean hashes anything: it is a label: what it is worth is what the hold of that sum in a sandbox is worth. -/
noncomputable def Try.pinned : Pinned := { name := "ytpffemcpfddjbaa", sum := "39feecbdfec4957e536f82f29afea76761d8240271b48e2737bd7bbc82218ea3", checked := Try.checked }
namespace Rows
def none {H : Type} : Left H := { results := [], args := [] }

/-- 'armoirelaw06.FreeWaits': WHATEVER THE INPUT: true; the input reads as it did. -/
def freeWaitsSpec : ChangeSpec := { name := "freeWaits", fn := fun _ => fun
  | [d1, d2] => { results := [.lit (.bool true)], args := [d1, d2] }
  | _ => none }
def freeWaitsRow : OpenClaim := { program := "ytpffemcpfddjbaa", sum := "39feecbdfec4957e536f82f29afea76761d8240271b48e2737bd7bbc82218ea3", func := "armoire/armoirelaw06.FreeWaits", spec := "freeWaits", unfollowed := true, recurses := true, apart := false }
def FreeWaitsSaid : Prop := freeWaitsRow.holds Try.pinned (OpenSpec.ofChange freeWaitsSpec)

/-- ITS FALSE NEIGHBOUR: 'it returns false'. Refute it at one input. -/
def freeWaitsWrong : ChangeSpec := { name := "freeWaits", fn := fun _ => fun
  | [d1, d2] => { results := [.lit (.bool false)], args := [d1, d2] }
  | _ => none }
def FreeWaitsWrongFalsely : Prop := freeWaitsRow.holds Try.pinned (OpenSpec.ofChange freeWaitsWrong)

/-- 'armoirelaw06.FreeRuns': WHATEVER THE INPUT: true; the input reads as it did. -/
def freeRunsSpec : ChangeSpec := { name := "freeRuns", fn := fun _ => fun
  | [d1, d2, d3, d4] => { results := [.lit (.bool true)], args := [d1, d2, d3, d4] }
  | _ => none }
def freeRunsRow : OpenClaim := { program := "ytpffemcpfddjbaa", sum := "39feecbdfec4957e536f82f29afea76761d8240271b48e2737bd7bbc82218ea3", func := "armoire/armoirelaw06.FreeRuns", spec := "freeRuns", unfollowed := true, recurses := true, apart := false }
def FreeRunsSaid : Prop := freeRunsRow.holds Try.pinned (OpenSpec.ofChange freeRunsSpec)

/-- ITS FALSE NEIGHBOUR: 'it returns false'. Refute it at one input. -/
def freeRunsWrong : ChangeSpec := { name := "freeRuns", fn := fun _ => fun
  | [d1, d2, d3, d4] => { results := [.lit (.bool false)], args := [d1, d2, d3, d4] }
  | _ => none }
def FreeRunsWrongFalsely : Prop := freeRunsRow.holds Try.pinned (OpenSpec.ofChange freeRunsWrong)

/-- 'armoirelaw06.FreeThree': WHATEVER THE INPUT: true; the input reads as it did. -/
def freeThreeSpec : ChangeSpec := { name := "freeThree", fn := fun _ => fun
  | [d1, d2, d3] => { results := [.lit (.bool true)], args := [d1, d2, d3] }
  | _ => none }
def freeThreeRow : OpenClaim := { program := "ytpffemcpfddjbaa", sum := "39feecbdfec4957e536f82f29afea76761d8240271b48e2737bd7bbc82218ea3", func := "armoire/armoirelaw06.FreeThree", spec := "freeThree", unfollowed := true, recurses := true, apart := false }
def FreeThreeSaid : Prop := freeThreeRow.holds Try.pinned (OpenSpec.ofChange freeThreeSpec)

/-- ITS FALSE NEIGHBOUR: 'it returns false'. Refute it at one input. -/
def freeThreeWrong : ChangeSpec := { name := "freeThree", fn := fun _ => fun
  | [d1, d2, d3] => { results := [.lit (.bool false)], args := [d1, d2, d3] }
  | _ => none }
def FreeThreeWrongFalsely : Prop := freeThreeRow.holds Try.pinned (OpenSpec.ofChange freeThreeWrong)

/-- 'armoirelaw06.FreeGoes': WHATEVER THE INPUT: true; the input reads as it did. -/
def freeGoesSpec : ChangeSpec := { name := "freeGoes", fn := fun _ => fun
  | [d1, d2, d3, d4] => { results := [.lit (.bool true)], args := [d1, d2, d3, d4] }
  | _ => none }
def freeGoesRow : OpenClaim := { program := "ytpffemcpfddjbaa", sum := "39feecbdfec4957e536f82f29afea76761d8240271b48e2737bd7bbc82218ea3", func := "armoire/armoirelaw06.FreeGoes", spec := "freeGoes", unfollowed := true, recurses := true, apart := false }
def FreeGoesSaid : Prop := freeGoesRow.holds Try.pinned (OpenSpec.ofChange freeGoesSpec)

/-- ITS FALSE NEIGHBOUR: 'it returns false'. Refute it at one input. -/
def freeGoesWrong : ChangeSpec := { name := "freeGoes", fn := fun _ => fun
  | [d1, d2, d3, d4] => { results := [.lit (.bool false)], args := [d1, d2, d3, d4] }
  | _ => none }
def FreeGoesWrongFalsely : Prop := freeGoesRow.holds Try.pinned (OpenSpec.ofChange freeGoesWrong)

/- THE SECOND FORM. 'bulk': how many values and letters a reading holds, each counted each time it is reached (what is shared counts as often as it is met; a slice's spare places count too). A statement '..UptoSaid' is the law's where the arguments, and the package variables that the reading takes, are together of bulk at most 1048576: NARROWER than '..Said'. Prove '..Said' where nothing that the law and all that it calls make is longer than what came in: it says more and counts as full. Else prove '..UptoSaid'. A law counts once. -/
mutual
def uptoBulk {H : Type} : DataW H → Nat
  | .lit (.string bytes) => bytes.length + 1
  | .lit _ => 1
  | .nil => 1
  | .ptr d => uptoBulk d + 1
  | .slice elems spare => uptoBulkAll elems + uptoBulkAll spare + 1
  | .agg parts => uptoBulkAll parts + 1
  | .iface _ d => uptoBulk d + 1
  | .map entries => uptoBulkEntries entries + 1
  | .held _ => 1
def uptoBulkAll {H : Type} : List (DataW H) → Nat
  | [] => 0
  | d :: r => uptoBulk d + uptoBulkAll r
def uptoBulkEntries {H : Type} : List (Lit × DataW H) → Nat
  | [] => 0
  | x :: r => uptoBulkEntry x + uptoBulkEntries r
def uptoBulkEntry {H : Type} : Lit × DataW H → Nat
  | (.string bytes, d) => bytes.length + uptoBulk d + 1
  | (_, d) => uptoBulk d + 1
 end
def uptoSmall : (H : Type) → List (DataW H) → Bool := fun _ ds => decide (uptoBulkAll ds ≤ 1048576)
def OpenSpec.upto (s : _root_.Go.ChangeSpec) : _root_.Go.OpenSpec := { _root_.Go.OpenSpec.ofChange s with cond := some uptoSmall }

/-- 'armoirelaw06.FreeWaits', WHERE WHAT IT READS IS OF BULK AT MOST 1048576: true; the input reads as it did. -/
def freeWaitsUptoRow : OpenClaim := { program := "ytpffemcpfddjbaa", sum := "39feecbdfec4957e536f82f29afea76761d8240271b48e2737bd7bbc82218ea3", func := "armoire/armoirelaw06.FreeWaits", spec := "freeWaits", unfollowed := true, recurses := true, apart := false, narrowed := true }
def FreeWaitsUptoSaid : Prop := freeWaitsUptoRow.holds Try.pinned (OpenSpec.upto freeWaitsSpec)

/-- 'armoirelaw06.FreeRuns', WHERE WHAT IT READS IS OF BULK AT MOST 1048576: true; the input reads as it did. -/
def freeRunsUptoRow : OpenClaim := { program := "ytpffemcpfddjbaa", sum := "39feecbdfec4957e536f82f29afea76761d8240271b48e2737bd7bbc82218ea3", func := "armoire/armoirelaw06.FreeRuns", spec := "freeRuns", unfollowed := true, recurses := true, apart := false, narrowed := true }
def FreeRunsUptoSaid : Prop := freeRunsUptoRow.holds Try.pinned (OpenSpec.upto freeRunsSpec)

/-- 'armoirelaw06.FreeThree', WHERE WHAT IT READS IS OF BULK AT MOST 1048576: true; the input reads as it did. -/
def freeThreeUptoRow : OpenClaim := { program := "ytpffemcpfddjbaa", sum := "39feecbdfec4957e536f82f29afea76761d8240271b48e2737bd7bbc82218ea3", func := "armoire/armoirelaw06.FreeThree", spec := "freeThree", unfollowed := true, recurses := true, apart := false, narrowed := true }
def FreeThreeUptoSaid : Prop := freeThreeUptoRow.holds Try.pinned (OpenSpec.upto freeThreeSpec)

/-- 'armoirelaw06.FreeGoes', WHERE WHAT IT READS IS OF BULK AT MOST 1048576: true; the input reads as it did. -/
def freeGoesUptoRow : OpenClaim := { program := "ytpffemcpfddjbaa", sum := "39feecbdfec4957e536f82f29afea76761d8240271b48e2737bd7bbc82218ea3", func := "armoire/armoirelaw06.FreeGoes", spec := "freeGoes", unfollowed := true, recurses := true, apart := false, narrowed := true }
def FreeGoesUptoSaid : Prop := freeGoesUptoRow.holds Try.pinned (OpenSpec.upto freeGoesSpec)

end Rows
end Go.Proofs.Ytpffemcpfddjbaa
