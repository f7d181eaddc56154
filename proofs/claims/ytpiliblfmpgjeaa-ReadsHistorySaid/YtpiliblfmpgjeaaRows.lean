/-
  No cell of these rows narrows 'for every input' (looked for: loops, veiled, ifaces, maps, wideKeys, modest, calm, conditions, laid).
  DERIVED. THE GIVEN ROWS OF THIS SEAT. 6 by the template 'for every input the law returns true; each argument reads behind the call as it read before'; 0 by the template 'total and deterministic' (their statements: YtpiliblfmpgjeaaTotals.lean).
  GIVEN WITH THE SEED: the statements are not yours to turn. If you find one false, say at which input.
  Laid BY PROGRAM, IN A SANDBOX (cutbox-rows.mjs): the forced cells as the released guide's own fill.sh prints them over the translation 11534d33768314e4… (all of the seat's roots in one cut). By AI agents, Wed Nov 11 2026. No macro, syntax, notation, axiom, sorry.
-/
import Derived.Test.YtpiliblfmpgjeaaChecked
import GoSem.Claim
import GoSem.ClaimJoined
import GoSem.ClaimMapViews
import Derived.JoinedTies
import Derived.KernelRfl
namespace Go.Proofs.Ytpiliblfmpgjeaa
/- THE CELL 'sum', in the pinned program and in every row, IS THE sha256 OF THE DUMP (.gsa) THAT YtpiliblfmpgjeaaProg.lean LOADS. Nothing in Lean hashes anything: it is a label: what it is worth is what the hold of that sum in a sandbox is worth. -/
noncomputable def Try.pinned : Pinned := { name := "ytpiliblfmpgjeaa", sum := "11534d33768314e4ae787593e269948219ed3395ffa0aaa3f90f63793491f1c4", checked := Try.checked }
namespace Rows
def none {H : Type} : Left H := { results := [], args := [] }

/-- 'armoirelaw15.ReadsMeet': WHATEVER THE INPUT: true; the input reads as it did. -/
def readsMeetSpec : ChangeSpec := { name := "readsMeet", fn := fun _ => fun
  | [d1, d2] => { results := [.lit (.bool true)], args := [d1, d2] }
  | _ => none }
def readsMeetRow : OpenClaim := { program := "ytpiliblfmpgjeaa", sum := "11534d33768314e4ae787593e269948219ed3395ffa0aaa3f90f63793491f1c4", func := "armoire/armoirelaw15.ReadsMeet", spec := "readsMeet", apart := false }
def ReadsMeetSaid : Prop := readsMeetRow.holds Try.pinned (OpenSpec.ofChange readsMeetSpec)

/-- ITS FALSE NEIGHBOUR: 'it returns false'. Refute it at one input. -/
def readsMeetWrong : ChangeSpec := { name := "readsMeet", fn := fun _ => fun
  | [d1, d2] => { results := [.lit (.bool false)], args := [d1, d2] }
  | _ => none }
def ReadsMeetWrongFalsely : Prop := readsMeetRow.holds Try.pinned (OpenSpec.ofChange readsMeetWrong)

/-- 'armoirelaw15.ReadsApart': WHATEVER THE INPUT: true; the input reads as it did. -/
def readsApartSpec : ChangeSpec := { name := "readsApart", fn := fun _ => fun
  | [d1, d2] => { results := [.lit (.bool true)], args := [d1, d2] }
  | _ => none }
def readsApartRow : OpenClaim := { program := "ytpiliblfmpgjeaa", sum := "11534d33768314e4ae787593e269948219ed3395ffa0aaa3f90f63793491f1c4", func := "armoire/armoirelaw15.ReadsApart", spec := "readsApart", apart := false }
def ReadsApartSaid : Prop := readsApartRow.holds Try.pinned (OpenSpec.ofChange readsApartSpec)

/-- ITS FALSE NEIGHBOUR: 'it returns false'. Refute it at one input. -/
def readsApartWrong : ChangeSpec := { name := "readsApart", fn := fun _ => fun
  | [d1, d2] => { results := [.lit (.bool false)], args := [d1, d2] }
  | _ => none }
def ReadsApartWrongFalsely : Prop := readsApartRow.holds Try.pinned (OpenSpec.ofChange readsApartWrong)

/-- 'armoirelaw15.ReadsMore': WHATEVER THE INPUT: true; the input reads as it did. -/
def readsMoreSpec : ChangeSpec := { name := "readsMore", fn := fun _ => fun
  | [d1, d2, d3, d4] => { results := [.lit (.bool true)], args := [d1, d2, d3, d4] }
  | _ => none }
def readsMoreRow : OpenClaim := { program := "ytpiliblfmpgjeaa", sum := "11534d33768314e4ae787593e269948219ed3395ffa0aaa3f90f63793491f1c4", func := "armoire/armoirelaw15.ReadsMore", spec := "readsMore", unfollowed := true, recurses := true, apart := false }
def ReadsMoreSaid : Prop := readsMoreRow.holds Try.pinned (OpenSpec.ofChange readsMoreSpec)

/-- ITS FALSE NEIGHBOUR: 'it returns false'. Refute it at one input. -/
def readsMoreWrong : ChangeSpec := { name := "readsMore", fn := fun _ => fun
  | [d1, d2, d3, d4] => { results := [.lit (.bool false)], args := [d1, d2, d3, d4] }
  | _ => none }
def ReadsMoreWrongFalsely : Prop := readsMoreRow.holds Try.pinned (OpenSpec.ofChange readsMoreWrong)

/-- 'armoirelaw15.ReadsSets': WHATEVER THE INPUT: true; the input reads as it did. -/
def readsSetsSpec : ChangeSpec := { name := "readsSets", fn := fun _ => fun
  | [d] => { results := [.lit (.bool true)], args := [d] }
  | _ => none }
def readsSetsRow : OpenClaim := { program := "ytpiliblfmpgjeaa", sum := "11534d33768314e4ae787593e269948219ed3395ffa0aaa3f90f63793491f1c4", func := "armoire/armoirelaw15.ReadsSets", spec := "readsSets", apart := false }
def ReadsSetsSaid : Prop := readsSetsRow.holds Try.pinned (OpenSpec.ofChange readsSetsSpec)

/-- ITS FALSE NEIGHBOUR: 'it returns false'. Refute it at one input. -/
def readsSetsWrong : ChangeSpec := { name := "readsSets", fn := fun _ => fun
  | [d] => { results := [.lit (.bool false)], args := [d] }
  | _ => none }
def ReadsSetsWrongFalsely : Prop := readsSetsRow.holds Try.pinned (OpenSpec.ofChange readsSetsWrong)

/-- 'armoirelaw15.ReadsUndone': WHATEVER THE INPUT: true; the input reads as it did. -/
def readsUndoneSpec : ChangeSpec := { name := "readsUndone", fn := fun _ => fun
  | [d1, d2] => { results := [.lit (.bool true)], args := [d1, d2] }
  | _ => none }
def readsUndoneRow : OpenClaim := { program := "ytpiliblfmpgjeaa", sum := "11534d33768314e4ae787593e269948219ed3395ffa0aaa3f90f63793491f1c4", func := "armoire/armoirelaw15.ReadsUndone", spec := "readsUndone", apart := false }
def ReadsUndoneSaid : Prop := readsUndoneRow.holds Try.pinned (OpenSpec.ofChange readsUndoneSpec)

/-- ITS FALSE NEIGHBOUR: 'it returns false'. Refute it at one input. -/
def readsUndoneWrong : ChangeSpec := { name := "readsUndone", fn := fun _ => fun
  | [d1, d2] => { results := [.lit (.bool false)], args := [d1, d2] }
  | _ => none }
def ReadsUndoneWrongFalsely : Prop := readsUndoneRow.holds Try.pinned (OpenSpec.ofChange readsUndoneWrong)

/-- 'armoirelaw15.ReadsHistory': WHATEVER THE INPUT: true; the input reads as it did. -/
def readsHistorySpec : ChangeSpec := { name := "readsHistory", fn := fun _ => fun
  | [d] => { results := [.lit (.bool true)], args := [d] }
  | _ => none }
def readsHistoryRow : OpenClaim := { program := "ytpiliblfmpgjeaa", sum := "11534d33768314e4ae787593e269948219ed3395ffa0aaa3f90f63793491f1c4", func := "armoire/armoirelaw15.ReadsHistory", spec := "readsHistory", unfollowed := true, recurses := true, apart := false }
def ReadsHistorySaid : Prop := readsHistoryRow.holds Try.pinned (OpenSpec.ofChange readsHistorySpec)

/-- ITS FALSE NEIGHBOUR: 'it returns false'. Refute it at one input. -/
def readsHistoryWrong : ChangeSpec := { name := "readsHistory", fn := fun _ => fun
  | [d] => { results := [.lit (.bool false)], args := [d] }
  | _ => none }
def ReadsHistoryWrongFalsely : Prop := readsHistoryRow.holds Try.pinned (OpenSpec.ofChange readsHistoryWrong)

/- THE SECOND FORM. 'bulk': how many values and letters a reading holds, each counted each time it is reached (what is shared counts as often as it is met; a slice's spare places count too). A statement '..UptoSaid' is the law's where the arguments, and the package variables that the reading takes, are together of bulk at most 1048576: NARROWER than '..Said'. Prove '..Said' where nothing that the law and all that it calls make is longer than what came in: it says more and counts as full. Else prove '..UptoSaid'. A law counts once. -/
mutual
def uptoBulk {H : Type} : DataW H → Nat
  | .lit (.string bytes) => bytes.length + 1
  | .lit _ => 1
  | .nil => 1
  | .ptr d => uptoBulk d + 1
  | .slice elems spare => uptoBulkAll elems + uptoBulkAll spare + 1
  | .agg parts => uptoBulkAll parts + 1
  | .iface _ d => uptoBulk d + 1
  | .map entries => uptoBulkEntries entries + 1
  | .held _ => 1
def uptoBulkAll {H : Type} : List (DataW H) → Nat
  | [] => 0
  | d :: r => uptoBulk d + uptoBulkAll r
def uptoBulkEntries {H : Type} : List (Lit × DataW H) → Nat
  | [] => 0
  | x :: r => uptoBulkEntry x + uptoBulkEntries r
def uptoBulkEntry {H : Type} : Lit × DataW H → Nat
  | (.string bytes, d) => bytes.length + uptoBulk d + 1
  | (_, d) => uptoBulk d + 1
 end
def uptoSmall : (H : Type) → List (DataW H) → Bool := fun _ ds => decide (uptoBulkAll ds ≤ 1048576)
def OpenSpec.upto (s : _root_.Go.ChangeSpec) : _root_.Go.OpenSpec := { _root_.Go.OpenSpec.ofChange s with cond := some uptoSmall }

/-- 'armoirelaw15.ReadsMeet', WHERE WHAT IT READS IS OF BULK AT MOST 1048576: true; the input reads as it did. -/
def readsMeetUptoRow : OpenClaim := { program := "ytpiliblfmpgjeaa", sum := "11534d33768314e4ae787593e269948219ed3395ffa0aaa3f90f63793491f1c4", func := "armoire/armoirelaw15.ReadsMeet", spec := "readsMeet", apart := false, narrowed := true }
def ReadsMeetUptoSaid : Prop := readsMeetUptoRow.holds Try.pinned (OpenSpec.upto readsMeetSpec)

/-- 'armoirelaw15.ReadsApart', WHERE WHAT IT READS IS OF BULK AT MOST 1048576: true; the input reads as it did. -/
def readsApartUptoRow : OpenClaim := { program := "ytpiliblfmpgjeaa", sum := "11534d33768314e4ae787593e269948219ed3395ffa0aaa3f90f63793491f1c4", func := "armoire/armoirelaw15.ReadsApart", spec := "readsApart", apart := false, narrowed := true }
def ReadsApartUptoSaid : Prop := readsApartUptoRow.holds Try.pinned (OpenSpec.upto readsApartSpec)

/-- 'armoirelaw15.ReadsMore', WHERE WHAT IT READS IS OF BULK AT MOST 1048576: true; the input reads as it did. -/
def readsMoreUptoRow : OpenClaim := { program := "ytpiliblfmpgjeaa", sum := "11534d33768314e4ae787593e269948219ed3395ffa0aaa3f90f63793491f1c4", func := "armoire/armoirelaw15.ReadsMore", spec := "readsMore", unfollowed := true, recurses := true, apart := false, narrowed := true }
def ReadsMoreUptoSaid : Prop := readsMoreUptoRow.holds Try.pinned (OpenSpec.upto readsMoreSpec)

/-- 'armoirelaw15.ReadsSets', WHERE WHAT IT READS IS OF BULK AT MOST 1048576: true; the input reads as it did. -/
def readsSetsUptoRow : OpenClaim := { program := "ytpiliblfmpgjeaa", sum := "11534d33768314e4ae787593e269948219ed3395ffa0aaa3f90f63793491f1c4", func := "armoire/armoirelaw15.ReadsSets", spec := "readsSets", apart := false, narrowed := true }
def ReadsSetsUptoSaid : Prop := readsSetsUptoRow.holds Try.pinned (OpenSpec.upto readsSetsSpec)

/-- 'armoirelaw15.ReadsUndone', WHERE WHAT IT READS IS OF BULK AT MOST 1048576: true; the input reads as it did. -/
def readsUndoneUptoRow : OpenClaim := { program := "ytpiliblfmpgjeaa", sum := "11534d33768314e4ae787593e269948219ed3395ffa0aaa3f90f63793491f1c4", func := "armoire/armoirelaw15.ReadsUndone", spec := "readsUndone", apart := false, narrowed := true }
def ReadsUndoneUptoSaid : Prop := readsUndoneUptoRow.holds Try.pinned (OpenSpec.upto readsUndoneSpec)

/-- 'armoirelaw15.ReadsHistory', WHERE WHAT IT READS IS OF BULK AT MOST 1048576: true; the input reads as it did. -/
def readsHistoryUptoRow : OpenClaim := { program := "ytpiliblfmpgjeaa", sum := "11534d33768314e4ae787593e269948219ed3395ffa0aaa3f90f63793491f1c4", func := "armoire/armoirelaw15.ReadsHistory", spec := "readsHistory", unfollowed := true, recurses := true, apart := false, narrowed := true }
def ReadsHistoryUptoSaid : Prop := readsHistoryUptoRow.holds Try.pinned (OpenSpec.upto readsHistorySpec)

end Rows
end Go.Proofs.Ytpiliblfmpgjeaa
