/-
  No cell of these rows narrows 'for every input' (looked for: loops, veiled, ifaces, maps, wideKeys, modest, calm, conditions, laid).
  DERIVED. THE GIVEN ROWS OF THIS SEAT. 5 by the template 'for every input the law returns true; each argument reads behind the call as it read before'; 0 by the template 'total and deterministic' (their statements: YtjkmllkpjiaceaaTotals.lean).
  GIVEN WITH THE SEED: the statements are not yours to turn. If you find one false, say at which input.
  Laid BY PROGRAM, IN A SANDBOX (cutbox-rows.mjs): the forced cells as the released guide's own fill.sh prints them over the translation 79b42eaec0c8e85f… (all of the seat's roots in one cut). By AI agents, Wed Nov 11 2026. No macro, syntax, notation, axiom, sorry.
-/
import Derived.Test.YtjkmllkpjiaceaaChecked
import GoSem.Claim
import GoSem.ClaimJoined
import GoSem.ClaimMapViews
import Derived.JoinedTies
import Derived.KernelRfl
namespace Go.Proofs.Ytjkmllkpjiaceaa
/- THE CELL 'sum', in the pinned program and in every row, IS THE sha256 OF THE DUMP (.gsa) THAT YtjkmllkpjiaceaaProg.lean LOADS. Nothing in Lean hashes anything: it is a label: what it is worth is what the hold of that sum in a sandbox is worth. -/
noncomputable def Try.pinned : Pinned := { name := "ytjkmllkpjiaceaa", sum := "79b42eaec0c8e85f1d0e900186c935fd8e10a2fbb172403e5ed585bb510b7984", checked := Try.checked }
namespace Rows
def none {H : Type} : Left H := { results := [], args := [] }

/-- 'gunwalelaw15.GroupTells': WHATEVER THE INPUT: true; the input reads as it did. -/
def groupTellsSpec : ChangeSpec := { name := "groupTells", fn := fun _ => fun
  | [d1, d2, d3] => { results := [.lit (.bool true)], args := [d1, d2, d3] }
  | _ => none }
def groupTellsRow : OpenClaim := { program := "ytjkmllkpjiaceaa", sum := "79b42eaec0c8e85f1d0e900186c935fd8e10a2fbb172403e5ed585bb510b7984", func := "gunwale/gunwalelaw15.GroupTells", spec := "groupTells", unfollowed := true, recurses := true, apart := false }
def GroupTellsSaid : Prop := groupTellsRow.holds Try.pinned (OpenSpec.ofChange groupTellsSpec)

/-- ITS FALSE NEIGHBOUR: 'it returns false'. Refute it at one input. -/
def groupTellsWrong : ChangeSpec := { name := "groupTells", fn := fun _ => fun
  | [d1, d2, d3] => { results := [.lit (.bool false)], args := [d1, d2, d3] }
  | _ => none }
def GroupTellsWrongFalsely : Prop := groupTellsRow.holds Try.pinned (OpenSpec.ofChange groupTellsWrong)

/-- 'gunwalelaw15.GroupAll': WHATEVER THE INPUT: true; the input reads as it did. -/
def groupAllSpec : ChangeSpec := { name := "groupAll", fn := fun _ => fun
  | [d] => { results := [.lit (.bool true)], args := [d] }
  | _ => none }
def groupAllRow : OpenClaim := { program := "ytjkmllkpjiaceaa", sum := "79b42eaec0c8e85f1d0e900186c935fd8e10a2fbb172403e5ed585bb510b7984", func := "gunwale/gunwalelaw15.GroupAll", spec := "groupAll", unfollowed := true, recurses := true, apart := false }
def GroupAllSaid : Prop := groupAllRow.holds Try.pinned (OpenSpec.ofChange groupAllSpec)

/-- ITS FALSE NEIGHBOUR: 'it returns false'. Refute it at one input. -/
def groupAllWrong : ChangeSpec := { name := "groupAll", fn := fun _ => fun
  | [d] => { results := [.lit (.bool false)], args := [d] }
  | _ => none }
def GroupAllWrongFalsely : Prop := groupAllRow.holds Try.pinned (OpenSpec.ofChange groupAllWrong)

/-- 'gunwalelaw15.GroupLets': WHATEVER THE INPUT: true; the input reads as it did. -/
def groupLetsSpec : ChangeSpec := { name := "groupLets", fn := fun _ => fun
  | [d1, d2] => { results := [.lit (.bool true)], args := [d1, d2] }
  | _ => none }
def groupLetsRow : OpenClaim := { program := "ytjkmllkpjiaceaa", sum := "79b42eaec0c8e85f1d0e900186c935fd8e10a2fbb172403e5ed585bb510b7984", func := "gunwale/gunwalelaw15.GroupLets", spec := "groupLets", unfollowed := true, recurses := true, apart := false }
def GroupLetsSaid : Prop := groupLetsRow.holds Try.pinned (OpenSpec.ofChange groupLetsSpec)

/-- ITS FALSE NEIGHBOUR: 'it returns false'. Refute it at one input. -/
def groupLetsWrong : ChangeSpec := { name := "groupLets", fn := fun _ => fun
  | [d1, d2] => { results := [.lit (.bool false)], args := [d1, d2] }
  | _ => none }
def GroupLetsWrongFalsely : Prop := groupLetsRow.holds Try.pinned (OpenSpec.ofChange groupLetsWrong)

/-- 'gunwalelaw15.GroupParts': WHATEVER THE INPUT: true; the input reads as it did. -/
def groupPartsSpec : ChangeSpec := { name := "groupParts", fn := fun _ => fun
  | [d1, d2, d3] => { results := [.lit (.bool true)], args := [d1, d2, d3] }
  | _ => none }
def groupPartsRow : OpenClaim := { program := "ytjkmllkpjiaceaa", sum := "79b42eaec0c8e85f1d0e900186c935fd8e10a2fbb172403e5ed585bb510b7984", func := "gunwale/gunwalelaw15.GroupParts", spec := "groupParts", unfollowed := true, recurses := true, apart := false }
def GroupPartsSaid : Prop := groupPartsRow.holds Try.pinned (OpenSpec.ofChange groupPartsSpec)

/-- ITS FALSE NEIGHBOUR: 'it returns false'. Refute it at one input. -/
def groupPartsWrong : ChangeSpec := { name := "groupParts", fn := fun _ => fun
  | [d1, d2, d3] => { results := [.lit (.bool false)], args := [d1, d2, d3] }
  | _ => none }
def GroupPartsWrongFalsely : Prop := groupPartsRow.holds Try.pinned (OpenSpec.ofChange groupPartsWrong)

/-- 'gunwalelaw15.GroupOrder': WHATEVER THE INPUT: true; the input reads as it did. -/
def groupOrderSpec : ChangeSpec := { name := "groupOrder", fn := fun _ => fun
  | [d1, d2, d3, d4] => { results := [.lit (.bool true)], args := [d1, d2, d3, d4] }
  | _ => none }
def groupOrderRow : OpenClaim := { program := "ytjkmllkpjiaceaa", sum := "79b42eaec0c8e85f1d0e900186c935fd8e10a2fbb172403e5ed585bb510b7984", func := "gunwale/gunwalelaw15.GroupOrder", spec := "groupOrder", unfollowed := true, recurses := true, apart := false }
def GroupOrderSaid : Prop := groupOrderRow.holds Try.pinned (OpenSpec.ofChange groupOrderSpec)

/-- ITS FALSE NEIGHBOUR: 'it returns false'. Refute it at one input. -/
def groupOrderWrong : ChangeSpec := { name := "groupOrder", fn := fun _ => fun
  | [d1, d2, d3, d4] => { results := [.lit (.bool false)], args := [d1, d2, d3, d4] }
  | _ => none }
def GroupOrderWrongFalsely : Prop := groupOrderRow.holds Try.pinned (OpenSpec.ofChange groupOrderWrong)

/- THE SECOND FORM. 'bulk': how many values and letters a reading holds, each counted each time it is reached (what is shared counts as often as it is met; a slice's spare places count too). A statement '..UptoSaid' is the law's where the arguments, and the package variables that the reading takes, are together of bulk at most 1048576: NARROWER than '..Said'. Prove '..Said' where nothing that the law and all that it calls make is longer than what came in: it says more and counts as full. Else prove '..UptoSaid'. A law counts once. -/
mutual
def uptoBulk {H : Type} : DataW H → Nat
  | .lit (.string bytes) => bytes.length + 1
  | .lit _ => 1
  | .nil => 1
  | .ptr d => uptoBulk d + 1
  | .slice elems spare => uptoBulkAll elems + uptoBulkAll spare + 1
  | .agg parts => uptoBulkAll parts + 1
  | .iface _ d => uptoBulk d + 1
  | .map entries => uptoBulkEntries entries + 1
  | .held _ => 1
def uptoBulkAll {H : Type} : List (DataW H) → Nat
  | [] => 0
  | d :: r => uptoBulk d + uptoBulkAll r
def uptoBulkEntries {H : Type} : List (Lit × DataW H) → Nat
  | [] => 0
  | x :: r => uptoBulkEntry x + uptoBulkEntries r
def uptoBulkEntry {H : Type} : Lit × DataW H → Nat
  | (.string bytes, d) => bytes.length + uptoBulk d + 1
  | (_, d) => uptoBulk d + 1
 end
def uptoSmall : (H : Type) → List (DataW H) → Bool := fun _ ds => decide (uptoBulkAll ds ≤ 1048576)
def OpenSpec.upto (s : _root_.Go.ChangeSpec) : _root_.Go.OpenSpec := { _root_.Go.OpenSpec.ofChange s with cond := some uptoSmall }

/-- 'gunwalelaw15.GroupTells', WHERE WHAT IT READS IS OF BULK AT MOST 1048576: true; the input reads as it did. -/
def groupTellsUptoRow : OpenClaim := { program := "ytjkmllkpjiaceaa", sum := "79b42eaec0c8e85f1d0e900186c935fd8e10a2fbb172403e5ed585bb510b7984", func := "gunwale/gunwalelaw15.GroupTells", spec := "groupTells", unfollowed := true, recurses := true, apart := false, narrowed := true }
def GroupTellsUptoSaid : Prop := groupTellsUptoRow.holds Try.pinned (OpenSpec.upto groupTellsSpec)

/-- 'gunwalelaw15.GroupAll', WHERE WHAT IT READS IS OF BULK AT MOST 1048576: true; the input reads as it did. -/
def groupAllUptoRow : OpenClaim := { program := "ytjkmllkpjiaceaa", sum := "79b42eaec0c8e85f1d0e900186c935fd8e10a2fbb172403e5ed585bb510b7984", func := "gunwale/gunwalelaw15.GroupAll", spec := "groupAll", unfollowed := true, recurses := true, apart := false, narrowed := true }
def GroupAllUptoSaid : Prop := groupAllUptoRow.holds Try.pinned (OpenSpec.upto groupAllSpec)

/-- 'gunwalelaw15.GroupLets', WHERE WHAT IT READS IS OF BULK AT MOST 1048576: true; the input reads as it did. -/
def groupLetsUptoRow : OpenClaim := { program := "ytjkmllkpjiaceaa", sum := "79b42eaec0c8e85f1d0e900186c935fd8e10a2fbb172403e5ed585bb510b7984", func := "gunwale/gunwalelaw15.GroupLets", spec := "groupLets", unfollowed := true, recurses := true, apart := false, narrowed := true }
def GroupLetsUptoSaid : Prop := groupLetsUptoRow.holds Try.pinned (OpenSpec.upto groupLetsSpec)

/-- 'gunwalelaw15.GroupParts', WHERE WHAT IT READS IS OF BULK AT MOST 1048576: true; the input reads as it did. -/
def groupPartsUptoRow : OpenClaim := { program := "ytjkmllkpjiaceaa", sum := "79b42eaec0c8e85f1d0e900186c935fd8e10a2fbb172403e5ed585bb510b7984", func := "gunwale/gunwalelaw15.GroupParts", spec := "groupParts", unfollowed := true, recurses := true, apart := false, narrowed := true }
def GroupPartsUptoSaid : Prop := groupPartsUptoRow.holds Try.pinned (OpenSpec.upto groupPartsSpec)

/-- 'gunwalelaw15.GroupOrder', WHERE WHAT IT READS IS OF BULK AT MOST 1048576: true; the input reads as it did. -/
def groupOrderUptoRow : OpenClaim := { program := "ytjkmllkpjiaceaa", sum := "79b42eaec0c8e85f1d0e900186c935fd8e10a2fbb172403e5ed585bb510b7984", func := "gunwale/gunwalelaw15.GroupOrder", spec := "groupOrder", unfollowed := true, recurses := true, apart := false, narrowed := true }
def GroupOrderUptoSaid : Prop := groupOrderUptoRow.holds Try.pinned (OpenSpec.upto groupOrderSpec)

end Rows
end Go.Proofs.Ytjkmllkpjiaceaa
