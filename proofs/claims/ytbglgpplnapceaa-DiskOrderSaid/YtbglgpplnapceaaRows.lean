/-
  NARROWER THAN 'FOR EVERY INPUT', by the rows' own cells (each row's printed sentence says how): StateBytes: loops · TreeApart: loops · TreePlays: loops · TreeEmpty: loops · TreeSame: loops · TreeGrows: loops.
  DERIVED. THE GIVEN ROWS OF THIS SEAT. 10 by the template 'for every input the law returns true; each argument reads behind the call as it read before'; 0 by the template 'total and deterministic' (their statements: YtbglgpplnapceaaTotals.lean).
  GIVEN WITH THE SEED: the statements are not yours to turn. If you find one false, say at which input.
  Laid BY PROGRAM, IN A SANDBOX (cutbox-rows.mjs): the forced cells as the released guide's own fill.sh prints them over the translation c2882d8144e73dd8… (all of the seat's roots in one cut). By AI agents, Wed Nov 11 2026. No macro, syntax, notation, axiom, sorry.
-/
import Derived.Test.YtbglgpplnapceaaChecked
import GoSem.Claim
import GoSem.ClaimJoined
import GoSem.ClaimMapViews
import Derived.JoinedTies
import Derived.KernelRfl
namespace Go.Proofs.Ytbglgpplnapceaa
/- THE CELL 'sum', in the pinned program and in every row, IS THE sha256 OF THE DUMP (.gsa) THAT YtbglgpplnapceaaProg.lean LOADS. Nothing in Lean hashes anything: it is a label: what it is worth is what the hold of that sum in a sandbox is worth. -/
noncomputable def Try.pinned : Pinned := { name := "ytbglgpplnapceaa", sum := "c2882d8144e73dd8384c56b8f916f40aa1fdb9f26f9fc59ac703b2773494692e", checked := Try.checked }
namespace Rows
def none {H : Type} : Left H := { results := [], args := [] }

/-- 'soriteslaw03.DiskOrder': WHATEVER THE INPUT: true; the input reads as it did. -/
def diskOrderSpec : ChangeSpec := { name := "diskOrder", fn := fun _ => fun
  | [d1, d2, d3] => { results := [.lit (.bool true)], args := [d1, d2, d3] }
  | _ => none }
def diskOrderRow : OpenClaim := { program := "ytbglgpplnapceaa", sum := "c2882d8144e73dd8384c56b8f916f40aa1fdb9f26f9fc59ac703b2773494692e", func := "sorites/soriteslaw03.DiskOrder", spec := "diskOrder", inPlace := ["maps.clone"], unfollowed := true, recurses := true, plainKeys := false, apart := false }
def DiskOrderSaid : Prop := diskOrderRow.holds Try.pinned (OpenSpec.ofChange diskOrderSpec)

/-- ITS FALSE NEIGHBOUR: 'it returns false'. Refute it at one input. -/
def diskOrderWrong : ChangeSpec := { name := "diskOrder", fn := fun _ => fun
  | [d1, d2, d3] => { results := [.lit (.bool false)], args := [d1, d2, d3] }
  | _ => none }
def DiskOrderWrongFalsely : Prop := diskOrderRow.holds Try.pinned (OpenSpec.ofChange diskOrderWrong)

/-- 'soriteslaw03.DiskTwo': WHATEVER THE INPUT: true; the input reads as it did. -/
def diskTwoSpec : ChangeSpec := { name := "diskTwo", fn := fun _ => fun
  | [d1, d2] => { results := [.lit (.bool true)], args := [d1, d2] }
  | _ => none }
def diskTwoRow : OpenClaim := { program := "ytbglgpplnapceaa", sum := "c2882d8144e73dd8384c56b8f916f40aa1fdb9f26f9fc59ac703b2773494692e", func := "sorites/soriteslaw03.DiskTwo", spec := "diskTwo", inPlace := ["maps.clone"], unfollowed := true, recurses := true, plainKeys := false, apart := false }
def DiskTwoSaid : Prop := diskTwoRow.holds Try.pinned (OpenSpec.ofChange diskTwoSpec)

/-- ITS FALSE NEIGHBOUR: 'it returns false'. Refute it at one input. -/
def diskTwoWrong : ChangeSpec := { name := "diskTwo", fn := fun _ => fun
  | [d1, d2] => { results := [.lit (.bool false)], args := [d1, d2] }
  | _ => none }
def DiskTwoWrongFalsely : Prop := diskTwoRow.holds Try.pinned (OpenSpec.ofChange diskTwoWrong)

/-- 'soriteslaw03.DiskArms': WHATEVER THE INPUT: true; the input reads as it did. -/
def diskArmsSpec : ChangeSpec := { name := "diskArms", fn := fun _ => fun
  | [d1, d2, d3] => { results := [.lit (.bool true)], args := [d1, d2, d3] }
  | _ => none }
def diskArmsRow : OpenClaim := { program := "ytbglgpplnapceaa", sum := "c2882d8144e73dd8384c56b8f916f40aa1fdb9f26f9fc59ac703b2773494692e", func := "sorites/soriteslaw03.DiskArms", spec := "diskArms", inPlace := ["maps.clone"], unfollowed := true, recurses := true, plainKeys := false, apart := false }
def DiskArmsSaid : Prop := diskArmsRow.holds Try.pinned (OpenSpec.ofChange diskArmsSpec)

/-- ITS FALSE NEIGHBOUR: 'it returns false'. Refute it at one input. -/
def diskArmsWrong : ChangeSpec := { name := "diskArms", fn := fun _ => fun
  | [d1, d2, d3] => { results := [.lit (.bool false)], args := [d1, d2, d3] }
  | _ => none }
def DiskArmsWrongFalsely : Prop := diskArmsRow.holds Try.pinned (OpenSpec.ofChange diskArmsWrong)

/-- 'soriteslaw22.StateBytes': WHATEVER THE INPUT: true; the input reads as it did. -/
def stateBytesSpec : ChangeSpec := { name := "stateBytes", fn := fun _ => fun
  | [d1, d2, d3] => { results := [.lit (.bool true)], args := [d1, d2, d3] }
  | _ => none }
def stateBytesRow : OpenClaim := { program := "ytbglgpplnapceaa", sum := "c2882d8144e73dd8384c56b8f916f40aa1fdb9f26f9fc59ac703b2773494692e", func := "sorites/soriteslaw22.StateBytes", spec := "stateBytes", inPlace := ["slices.overlaps[int]"], unfollowed := true, recurses := true, loops := true, plainKeys := false, apart := false }
def StateBytesSaid : Prop := stateBytesRow.holds Try.pinned (OpenSpec.ofChange stateBytesSpec)

/-- ITS FALSE NEIGHBOUR: 'it returns false'. Refute it at one input. -/
def stateBytesWrong : ChangeSpec := { name := "stateBytes", fn := fun _ => fun
  | [d1, d2, d3] => { results := [.lit (.bool false)], args := [d1, d2, d3] }
  | _ => none }
def StateBytesWrongFalsely : Prop := stateBytesRow.holds Try.pinned (OpenSpec.ofChange stateBytesWrong)

/-- 'soriteslaw22.StateReads': WHATEVER THE INPUT: true; the input reads as it did. -/
def stateReadsSpec : ChangeSpec := { name := "stateReads", fn := fun _ => fun
  | [d] => { results := [.lit (.bool true)], args := [d] }
  | _ => none }
def stateReadsRow : OpenClaim := { program := "ytbglgpplnapceaa", sum := "c2882d8144e73dd8384c56b8f916f40aa1fdb9f26f9fc59ac703b2773494692e", func := "sorites/soriteslaw22.StateReads", spec := "stateReads", inPlace := ["slices.overlaps[int]"], unfollowed := true, recurses := true, plainKeys := false, apart := false }
def StateReadsSaid : Prop := stateReadsRow.holds Try.pinned (OpenSpec.ofChange stateReadsSpec)

/-- ITS FALSE NEIGHBOUR: 'it returns false'. Refute it at one input. -/
def stateReadsWrong : ChangeSpec := { name := "stateReads", fn := fun _ => fun
  | [d] => { results := [.lit (.bool false)], args := [d] }
  | _ => none }
def StateReadsWrongFalsely : Prop := stateReadsRow.holds Try.pinned (OpenSpec.ofChange stateReadsWrong)

/-- 'soriteslaw19.TreeApart': WHATEVER THE INPUT: true; the input reads as it did. -/
def treeApartSpec : ChangeSpec := { name := "treeApart", fn := fun _ => fun
  | [d1, d2] => { results := [.lit (.bool true)], args := [d1, d2] }
  | _ => none }
def treeApartRow : OpenClaim := { program := "ytbglgpplnapceaa", sum := "c2882d8144e73dd8384c56b8f916f40aa1fdb9f26f9fc59ac703b2773494692e", func := "sorites/soriteslaw19.TreeApart", spec := "treeApart", unfollowed := true, recurses := true, loops := true, plainKeys := false, apart := false }
def TreeApartSaid : Prop := treeApartRow.holds Try.pinned (OpenSpec.ofChange treeApartSpec)

/-- ITS FALSE NEIGHBOUR: 'it returns false'. Refute it at one input. -/
def treeApartWrong : ChangeSpec := { name := "treeApart", fn := fun _ => fun
  | [d1, d2] => { results := [.lit (.bool false)], args := [d1, d2] }
  | _ => none }
def TreeApartWrongFalsely : Prop := treeApartRow.holds Try.pinned (OpenSpec.ofChange treeApartWrong)

/-- 'soriteslaw19.TreePlays': WHATEVER THE INPUT: true; the input reads as it did. -/
def treePlaysSpec : ChangeSpec := { name := "treePlays", fn := fun _ => fun
  | [d1, d2] => { results := [.lit (.bool true)], args := [d1, d2] }
  | _ => none }
def treePlaysRow : OpenClaim := { program := "ytbglgpplnapceaa", sum := "c2882d8144e73dd8384c56b8f916f40aa1fdb9f26f9fc59ac703b2773494692e", func := "sorites/soriteslaw19.TreePlays", spec := "treePlays", unfollowed := true, recurses := true, loops := true, plainKeys := false, apart := false }
def TreePlaysSaid : Prop := treePlaysRow.holds Try.pinned (OpenSpec.ofChange treePlaysSpec)

/-- ITS FALSE NEIGHBOUR: 'it returns false'. Refute it at one input. -/
def treePlaysWrong : ChangeSpec := { name := "treePlays", fn := fun _ => fun
  | [d1, d2] => { results := [.lit (.bool false)], args := [d1, d2] }
  | _ => none }
def TreePlaysWrongFalsely : Prop := treePlaysRow.holds Try.pinned (OpenSpec.ofChange treePlaysWrong)

/-- 'soriteslaw19.TreeEmpty': WHATEVER THE INPUT: true; the input reads as it did. -/
def treeEmptySpec : ChangeSpec := { name := "treeEmpty", fn := fun _ => fun
  | [d1, d2] => { results := [.lit (.bool true)], args := [d1, d2] }
  | _ => none }
def treeEmptyRow : OpenClaim := { program := "ytbglgpplnapceaa", sum := "c2882d8144e73dd8384c56b8f916f40aa1fdb9f26f9fc59ac703b2773494692e", func := "sorites/soriteslaw19.TreeEmpty", spec := "treeEmpty", unfollowed := true, recurses := true, loops := true, plainKeys := false, apart := false }
def TreeEmptySaid : Prop := treeEmptyRow.holds Try.pinned (OpenSpec.ofChange treeEmptySpec)

/-- ITS FALSE NEIGHBOUR: 'it returns false'. Refute it at one input. -/
def treeEmptyWrong : ChangeSpec := { name := "treeEmpty", fn := fun _ => fun
  | [d1, d2] => { results := [.lit (.bool false)], args := [d1, d2] }
  | _ => none }
def TreeEmptyWrongFalsely : Prop := treeEmptyRow.holds Try.pinned (OpenSpec.ofChange treeEmptyWrong)

/-- 'soriteslaw19.TreeSame': WHATEVER THE INPUT: true; the input reads as it did. -/
def treeSameSpec : ChangeSpec := { name := "treeSame", fn := fun _ => fun
  | [d1, d2, d3, d4] => { results := [.lit (.bool true)], args := [d1, d2, d3, d4] }
  | _ => none }
def treeSameRow : OpenClaim := { program := "ytbglgpplnapceaa", sum := "c2882d8144e73dd8384c56b8f916f40aa1fdb9f26f9fc59ac703b2773494692e", func := "sorites/soriteslaw19.TreeSame", spec := "treeSame", unfollowed := true, recurses := true, loops := true, plainKeys := false, apart := false }
def TreeSameSaid : Prop := treeSameRow.holds Try.pinned (OpenSpec.ofChange treeSameSpec)

/-- ITS FALSE NEIGHBOUR: 'it returns false'. Refute it at one input. -/
def treeSameWrong : ChangeSpec := { name := "treeSame", fn := fun _ => fun
  | [d1, d2, d3, d4] => { results := [.lit (.bool false)], args := [d1, d2, d3, d4] }
  | _ => none }
def TreeSameWrongFalsely : Prop := treeSameRow.holds Try.pinned (OpenSpec.ofChange treeSameWrong)

/-- 'soriteslaw19.TreeGrows': WHATEVER THE INPUT: true; the input reads as it did. -/
def treeGrowsSpec : ChangeSpec := { name := "treeGrows", fn := fun _ => fun
  | [d1, d2, d3] => { results := [.lit (.bool true)], args := [d1, d2, d3] }
  | _ => none }
def treeGrowsRow : OpenClaim := { program := "ytbglgpplnapceaa", sum := "c2882d8144e73dd8384c56b8f916f40aa1fdb9f26f9fc59ac703b2773494692e", func := "sorites/soriteslaw19.TreeGrows", spec := "treeGrows", unfollowed := true, recurses := true, loops := true, plainKeys := false, apart := false }
def TreeGrowsSaid : Prop := treeGrowsRow.holds Try.pinned (OpenSpec.ofChange treeGrowsSpec)

/-- ITS FALSE NEIGHBOUR: 'it returns false'. Refute it at one input. -/
def treeGrowsWrong : ChangeSpec := { name := "treeGrows", fn := fun _ => fun
  | [d1, d2, d3] => { results := [.lit (.bool false)], args := [d1, d2, d3] }
  | _ => none }
def TreeGrowsWrongFalsely : Prop := treeGrowsRow.holds Try.pinned (OpenSpec.ofChange treeGrowsWrong)

/- THE SECOND FORM. 'bulk': how many values and letters a reading holds, each counted each time it is reached (what is shared counts as often as it is met; a slice's spare places count too). A statement '..UptoSaid' is the law's where the arguments, and the package variables that the reading takes, are together of bulk at most 1048576: NARROWER than '..Said'. Prove '..Said' where nothing that the law and all that it calls make is longer than what came in: it says more and counts as full. Else prove '..UptoSaid'. A law counts once. -/
mutual
def uptoBulk {H : Type} : DataW H → Nat
  | .lit (.string bytes) => bytes.length + 1
  | .lit _ => 1
  | .nil => 1
  | .ptr d => uptoBulk d + 1
  | .slice elems spare => uptoBulkAll elems + uptoBulkAll spare + 1
  | .agg parts => uptoBulkAll parts + 1
  | .iface _ d => uptoBulk d + 1
  | .map entries => uptoBulkEntries entries + 1
  | .held _ => 1
def uptoBulkAll {H : Type} : List (DataW H) → Nat
  | [] => 0
  | d :: r => uptoBulk d + uptoBulkAll r
def uptoBulkEntries {H : Type} : List (Lit × DataW H) → Nat
  | [] => 0
  | x :: r => uptoBulkEntry x + uptoBulkEntries r
def uptoBulkEntry {H : Type} : Lit × DataW H → Nat
  | (.string bytes, d) => bytes.length + uptoBulk d + 1
  | (_, d) => uptoBulk d + 1
 end
def uptoSmall : (H : Type) → List (DataW H) → Bool := fun _ ds => decide (uptoBulkAll ds ≤ 1048576)
def OpenSpec.upto (s : _root_.Go.ChangeSpec) : _root_.Go.OpenSpec := { _root_.Go.OpenSpec.ofChange s with cond := some uptoSmall }

/-- 'soriteslaw03.DiskOrder', WHERE WHAT IT READS IS OF BULK AT MOST 1048576: true; the input reads as it did. -/
def diskOrderUptoRow : OpenClaim := { program := "ytbglgpplnapceaa", sum := "c2882d8144e73dd8384c56b8f916f40aa1fdb9f26f9fc59ac703b2773494692e", func := "sorites/soriteslaw03.DiskOrder", spec := "diskOrder", inPlace := ["maps.clone"], unfollowed := true, recurses := true, plainKeys := false, apart := false, narrowed := true }
def DiskOrderUptoSaid : Prop := diskOrderUptoRow.holds Try.pinned (OpenSpec.upto diskOrderSpec)

/-- 'soriteslaw03.DiskTwo', WHERE WHAT IT READS IS OF BULK AT MOST 1048576: true; the input reads as it did. -/
def diskTwoUptoRow : OpenClaim := { program := "ytbglgpplnapceaa", sum := "c2882d8144e73dd8384c56b8f916f40aa1fdb9f26f9fc59ac703b2773494692e", func := "sorites/soriteslaw03.DiskTwo", spec := "diskTwo", inPlace := ["maps.clone"], unfollowed := true, recurses := true, plainKeys := false, apart := false, narrowed := true }
def DiskTwoUptoSaid : Prop := diskTwoUptoRow.holds Try.pinned (OpenSpec.upto diskTwoSpec)

/-- 'soriteslaw03.DiskArms', WHERE WHAT IT READS IS OF BULK AT MOST 1048576: true; the input reads as it did. -/
def diskArmsUptoRow : OpenClaim := { program := "ytbglgpplnapceaa", sum := "c2882d8144e73dd8384c56b8f916f40aa1fdb9f26f9fc59ac703b2773494692e", func := "sorites/soriteslaw03.DiskArms", spec := "diskArms", inPlace := ["maps.clone"], unfollowed := true, recurses := true, plainKeys := false, apart := false, narrowed := true }
def DiskArmsUptoSaid : Prop := diskArmsUptoRow.holds Try.pinned (OpenSpec.upto diskArmsSpec)

/-- 'soriteslaw22.StateBytes', WHERE WHAT IT READS IS OF BULK AT MOST 1048576: true; the input reads as it did. -/
def stateBytesUptoRow : OpenClaim := { program := "ytbglgpplnapceaa", sum := "c2882d8144e73dd8384c56b8f916f40aa1fdb9f26f9fc59ac703b2773494692e", func := "sorites/soriteslaw22.StateBytes", spec := "stateBytes", inPlace := ["slices.overlaps[int]"], unfollowed := true, recurses := true, loops := true, plainKeys := false, apart := false, narrowed := true }
def StateBytesUptoSaid : Prop := stateBytesUptoRow.holds Try.pinned (OpenSpec.upto stateBytesSpec)

/-- 'soriteslaw22.StateReads', WHERE WHAT IT READS IS OF BULK AT MOST 1048576: true; the input reads as it did. -/
def stateReadsUptoRow : OpenClaim := { program := "ytbglgpplnapceaa", sum := "c2882d8144e73dd8384c56b8f916f40aa1fdb9f26f9fc59ac703b2773494692e", func := "sorites/soriteslaw22.StateReads", spec := "stateReads", inPlace := ["slices.overlaps[int]"], unfollowed := true, recurses := true, plainKeys := false, apart := false, narrowed := true }
def StateReadsUptoSaid : Prop := stateReadsUptoRow.holds Try.pinned (OpenSpec.upto stateReadsSpec)

/-- 'soriteslaw19.TreeApart', WHERE WHAT IT READS IS OF BULK AT MOST 1048576: true; the input reads as it did. -/
def treeApartUptoRow : OpenClaim := { program := "ytbglgpplnapceaa", sum := "c2882d8144e73dd8384c56b8f916f40aa1fdb9f26f9fc59ac703b2773494692e", func := "sorites/soriteslaw19.TreeApart", spec := "treeApart", unfollowed := true, recurses := true, loops := true, plainKeys := false, apart := false, narrowed := true }
def TreeApartUptoSaid : Prop := treeApartUptoRow.holds Try.pinned (OpenSpec.upto treeApartSpec)

/-- 'soriteslaw19.TreePlays', WHERE WHAT IT READS IS OF BULK AT MOST 1048576: true; the input reads as it did. -/
def treePlaysUptoRow : OpenClaim := { program := "ytbglgpplnapceaa", sum := "c2882d8144e73dd8384c56b8f916f40aa1fdb9f26f9fc59ac703b2773494692e", func := "sorites/soriteslaw19.TreePlays", spec := "treePlays", unfollowed := true, recurses := true, loops := true, plainKeys := false, apart := false, narrowed := true }
def TreePlaysUptoSaid : Prop := treePlaysUptoRow.holds Try.pinned (OpenSpec.upto treePlaysSpec)

/-- 'soriteslaw19.TreeEmpty', WHERE WHAT IT READS IS OF BULK AT MOST 1048576: true; the input reads as it did. -/
def treeEmptyUptoRow : OpenClaim := { program := "ytbglgpplnapceaa", sum := "c2882d8144e73dd8384c56b8f916f40aa1fdb9f26f9fc59ac703b2773494692e", func := "sorites/soriteslaw19.TreeEmpty", spec := "treeEmpty", unfollowed := true, recurses := true, loops := true, plainKeys := false, apart := false, narrowed := true }
def TreeEmptyUptoSaid : Prop := treeEmptyUptoRow.holds Try.pinned (OpenSpec.upto treeEmptySpec)

/-- 'soriteslaw19.TreeSame', WHERE WHAT IT READS IS OF BULK AT MOST 1048576: true; the input reads as it did. -/
def treeSameUptoRow : OpenClaim := { program := "ytbglgpplnapceaa", sum := "c2882d8144e73dd8384c56b8f916f40aa1fdb9f26f9fc59ac703b2773494692e", func := "sorites/soriteslaw19.TreeSame", spec := "treeSame", unfollowed := true, recurses := true, loops := true, plainKeys := false, apart := false, narrowed := true }
def TreeSameUptoSaid : Prop := treeSameUptoRow.holds Try.pinned (OpenSpec.upto treeSameSpec)

/-- 'soriteslaw19.TreeGrows', WHERE WHAT IT READS IS OF BULK AT MOST 1048576: true; the input reads as it did. -/
def treeGrowsUptoRow : OpenClaim := { program := "ytbglgpplnapceaa", sum := "c2882d8144e73dd8384c56b8f916f40aa1fdb9f26f9fc59ac703b2773494692e", func := "sorites/soriteslaw19.TreeGrows", spec := "treeGrows", unfollowed := true, recurses := true, loops := true, plainKeys := false, apart := false, narrowed := true }
def TreeGrowsUptoSaid : Prop := treeGrowsUptoRow.holds Try.pinned (OpenSpec.upto treeGrowsSpec)

end Rows
end Go.Proofs.Ytbglgpplnapceaa
