/-
  No cell of these rows narrows 'for every input' (looked for: loops, veiled, ifaces, maps, wideKeys, modest, calm, conditions, laid).
  DERIVED. THE GIVEN ROWS OF THIS SEAT. 5 by the template 'for every input the law returns true; each argument reads behind the call as it read before'; 0 by the template 'total and deterministic' (their statements: YthfphhplghahjaaTotals.lean).
  GIVEN WITH THE SEED: the statements are not yours to turn. If you find one false, say at which input.
  Laid BY PROGRAM, IN A SANDBOX (cutbox-rows.mjs): the forced cells as the released guide's own fill.sh prints them over the translation b41931b1c8999cb9… (all of the seat's roots in one cut). By AI agents, Wed Nov 11 2026. No macro, syntax, notation, axiom, sorry.
-/
import Derived.Test.YthfphhplghahjaaChecked
import GoSem.Claim
import GoSem.ClaimJoined
import GoSem.ClaimMapViews
import Derived.JoinedTies
import Derived.KernelRfl
namespace Go.Proofs.Ythfphhplghahjaa
/- THE CELL 'sum', in the pinned program and in every row, IS THE sha256 OF THE DUMP (.gsa) THAT YthfphhplghahjaaProg.lean LOADS. Nothing in Lean hashes anything: it is a label: what it is worth is what the hold of that sum in a sandbox is worth. -/
noncomputable def Try.pinned : Pinned := { name := "ythfphhplghahjaa", sum := "b41931b1c8999cb9dd3b24b7c6e05cf1da88f0057e88d1cc751fcfd550683121", checked := Try.checked }
namespace Rows
def none {H : Type} : Left H := { results := [], args := [] }

/-- 'gunwalelaw10.WatchTells': WHATEVER THE INPUT: true; the input reads as it did. -/
def watchTellsSpec : ChangeSpec := { name := "watchTells", fn := fun _ => fun
  | [d1, d2, d3] => { results := [.lit (.bool true)], args := [d1, d2, d3] }
  | _ => none }
def watchTellsRow : OpenClaim := { program := "ythfphhplghahjaa", sum := "b41931b1c8999cb9dd3b24b7c6e05cf1da88f0057e88d1cc751fcfd550683121", func := "gunwale/gunwalelaw10.WatchTells", spec := "watchTells", unfollowed := true, recurses := true, apart := false }
def WatchTellsSaid : Prop := watchTellsRow.holds Try.pinned (OpenSpec.ofChange watchTellsSpec)

/-- ITS FALSE NEIGHBOUR: 'it returns false'. Refute it at one input. -/
def watchTellsWrong : ChangeSpec := { name := "watchTells", fn := fun _ => fun
  | [d1, d2, d3] => { results := [.lit (.bool false)], args := [d1, d2, d3] }
  | _ => none }
def WatchTellsWrongFalsely : Prop := watchTellsRow.holds Try.pinned (OpenSpec.ofChange watchTellsWrong)

/-- 'gunwalelaw10.WatchBegins': WHATEVER THE INPUT: true; the input reads as it did. -/
def watchBeginsSpec : ChangeSpec := { name := "watchBegins", fn := fun _ => fun
  | [d] => { results := [.lit (.bool true)], args := [d] }
  | _ => none }
def watchBeginsRow : OpenClaim := { program := "ythfphhplghahjaa", sum := "b41931b1c8999cb9dd3b24b7c6e05cf1da88f0057e88d1cc751fcfd550683121", func := "gunwale/gunwalelaw10.WatchBegins", spec := "watchBegins", unfollowed := true, recurses := true, apart := false }
def WatchBeginsSaid : Prop := watchBeginsRow.holds Try.pinned (OpenSpec.ofChange watchBeginsSpec)

/-- ITS FALSE NEIGHBOUR: 'it returns false'. Refute it at one input. -/
def watchBeginsWrong : ChangeSpec := { name := "watchBegins", fn := fun _ => fun
  | [d] => { results := [.lit (.bool false)], args := [d] }
  | _ => none }
def WatchBeginsWrongFalsely : Prop := watchBeginsRow.holds Try.pinned (OpenSpec.ofChange watchBeginsWrong)

/-- 'gunwalelaw10.WatchRoom': WHATEVER THE INPUT: true; the input reads as it did. -/
def watchRoomSpec : ChangeSpec := { name := "watchRoom", fn := fun _ => fun
  | [d] => { results := [.lit (.bool true)], args := [d] }
  | _ => none }
def watchRoomRow : OpenClaim := { program := "ythfphhplghahjaa", sum := "b41931b1c8999cb9dd3b24b7c6e05cf1da88f0057e88d1cc751fcfd550683121", func := "gunwale/gunwalelaw10.WatchRoom", spec := "watchRoom", unfollowed := true, recurses := true, apart := false }
def WatchRoomSaid : Prop := watchRoomRow.holds Try.pinned (OpenSpec.ofChange watchRoomSpec)

/-- ITS FALSE NEIGHBOUR: 'it returns false'. Refute it at one input. -/
def watchRoomWrong : ChangeSpec := { name := "watchRoom", fn := fun _ => fun
  | [d] => { results := [.lit (.bool false)], args := [d] }
  | _ => none }
def WatchRoomWrongFalsely : Prop := watchRoomRow.holds Try.pinned (OpenSpec.ofChange watchRoomWrong)

/-- 'gunwalelaw10.WatchParts': WHATEVER THE INPUT: true; the input reads as it did. -/
def watchPartsSpec : ChangeSpec := { name := "watchParts", fn := fun _ => fun
  | [d1, d2, d3, d4, d5] => { results := [.lit (.bool true)], args := [d1, d2, d3, d4, d5] }
  | _ => none }
def watchPartsRow : OpenClaim := { program := "ythfphhplghahjaa", sum := "b41931b1c8999cb9dd3b24b7c6e05cf1da88f0057e88d1cc751fcfd550683121", func := "gunwale/gunwalelaw10.WatchParts", spec := "watchParts", unfollowed := true, recurses := true, apart := false }
def WatchPartsSaid : Prop := watchPartsRow.holds Try.pinned (OpenSpec.ofChange watchPartsSpec)

/-- ITS FALSE NEIGHBOUR: 'it returns false'. Refute it at one input. -/
def watchPartsWrong : ChangeSpec := { name := "watchParts", fn := fun _ => fun
  | [d1, d2, d3, d4, d5] => { results := [.lit (.bool false)], args := [d1, d2, d3, d4, d5] }
  | _ => none }
def WatchPartsWrongFalsely : Prop := watchPartsRow.holds Try.pinned (OpenSpec.ofChange watchPartsWrong)

/-- 'gunwalelaw10.WatchLost': WHATEVER THE INPUT: true; the input reads as it did. -/
def watchLostSpec : ChangeSpec := { name := "watchLost", fn := fun _ => fun
  | [d1, d2] => { results := [.lit (.bool true)], args := [d1, d2] }
  | _ => none }
def watchLostRow : OpenClaim := { program := "ythfphhplghahjaa", sum := "b41931b1c8999cb9dd3b24b7c6e05cf1da88f0057e88d1cc751fcfd550683121", func := "gunwale/gunwalelaw10.WatchLost", spec := "watchLost", unfollowed := true, recurses := true, apart := false }
def WatchLostSaid : Prop := watchLostRow.holds Try.pinned (OpenSpec.ofChange watchLostSpec)

/-- ITS FALSE NEIGHBOUR: 'it returns false'. Refute it at one input. -/
def watchLostWrong : ChangeSpec := { name := "watchLost", fn := fun _ => fun
  | [d1, d2] => { results := [.lit (.bool false)], args := [d1, d2] }
  | _ => none }
def WatchLostWrongFalsely : Prop := watchLostRow.holds Try.pinned (OpenSpec.ofChange watchLostWrong)

/- THE SECOND FORM. 'bulk': how many values and letters a reading holds, each counted each time it is reached (what is shared counts as often as it is met; a slice's spare places count too). A statement '..UptoSaid' is the law's where the arguments, and the package variables that the reading takes, are together of bulk at most 1048576: NARROWER than '..Said'. Prove '..Said' where nothing that the law and all that it calls make is longer than what came in: it says more and counts as full. Else prove '..UptoSaid'. A law counts once. -/
mutual
def uptoBulk {H : Type} : DataW H → Nat
  | .lit (.string bytes) => bytes.length + 1
  | .lit _ => 1
  | .nil => 1
  | .ptr d => uptoBulk d + 1
  | .slice elems spare => uptoBulkAll elems + uptoBulkAll spare + 1
  | .agg parts => uptoBulkAll parts + 1
  | .iface _ d => uptoBulk d + 1
  | .map entries => uptoBulkEntries entries + 1
  | .held _ => 1
def uptoBulkAll {H : Type} : List (DataW H) → Nat
  | [] => 0
  | d :: r => uptoBulk d + uptoBulkAll r
def uptoBulkEntries {H : Type} : List (Lit × DataW H) → Nat
  | [] => 0
  | x :: r => uptoBulkEntry x + uptoBulkEntries r
def uptoBulkEntry {H : Type} : Lit × DataW H → Nat
  | (.string bytes, d) => bytes.length + uptoBulk d + 1
  | (_, d) => uptoBulk d + 1
 end
def uptoSmall : (H : Type) → List (DataW H) → Bool := fun _ ds => decide (uptoBulkAll ds ≤ 1048576)
def OpenSpec.upto (s : _root_.Go.ChangeSpec) : _root_.Go.OpenSpec := { _root_.Go.OpenSpec.ofChange s with cond := some uptoSmall }

/-- 'gunwalelaw10.WatchTells', WHERE WHAT IT READS IS OF BULK AT MOST 1048576: true; the input reads as it did. -/
def watchTellsUptoRow : OpenClaim := { program := "ythfphhplghahjaa", sum := "b41931b1c8999cb9dd3b24b7c6e05cf1da88f0057e88d1cc751fcfd550683121", func := "gunwale/gunwalelaw10.WatchTells", spec := "watchTells", unfollowed := true, recurses := true, apart := false, narrowed := true }
def WatchTellsUptoSaid : Prop := watchTellsUptoRow.holds Try.pinned (OpenSpec.upto watchTellsSpec)

/-- 'gunwalelaw10.WatchBegins', WHERE WHAT IT READS IS OF BULK AT MOST 1048576: true; the input reads as it did. -/
def watchBeginsUptoRow : OpenClaim := { program := "ythfphhplghahjaa", sum := "b41931b1c8999cb9dd3b24b7c6e05cf1da88f0057e88d1cc751fcfd550683121", func := "gunwale/gunwalelaw10.WatchBegins", spec := "watchBegins", unfollowed := true, recurses := true, apart := false, narrowed := true }
def WatchBeginsUptoSaid : Prop := watchBeginsUptoRow.holds Try.pinned (OpenSpec.upto watchBeginsSpec)

/-- 'gunwalelaw10.WatchRoom', WHERE WHAT IT READS IS OF BULK AT MOST 1048576: true; the input reads as it did. -/
def watchRoomUptoRow : OpenClaim := { program := "ythfphhplghahjaa", sum := "b41931b1c8999cb9dd3b24b7c6e05cf1da88f0057e88d1cc751fcfd550683121", func := "gunwale/gunwalelaw10.WatchRoom", spec := "watchRoom", unfollowed := true, recurses := true, apart := false, narrowed := true }
def WatchRoomUptoSaid : Prop := watchRoomUptoRow.holds Try.pinned (OpenSpec.upto watchRoomSpec)

/-- 'gunwalelaw10.WatchParts', WHERE WHAT IT READS IS OF BULK AT MOST 1048576: true; the input reads as it did. -/
def watchPartsUptoRow : OpenClaim := { program := "ythfphhplghahjaa", sum := "b41931b1c8999cb9dd3b24b7c6e05cf1da88f0057e88d1cc751fcfd550683121", func := "gunwale/gunwalelaw10.WatchParts", spec := "watchParts", unfollowed := true, recurses := true, apart := false, narrowed := true }
def WatchPartsUptoSaid : Prop := watchPartsUptoRow.holds Try.pinned (OpenSpec.upto watchPartsSpec)

/-- 'gunwalelaw10.WatchLost', WHERE WHAT IT READS IS OF BULK AT MOST 1048576: true; the input reads as it did. -/
def watchLostUptoRow : OpenClaim := { program := "ythfphhplghahjaa", sum := "b41931b1c8999cb9dd3b24b7c6e05cf1da88f0057e88d1cc751fcfd550683121", func := "gunwale/gunwalelaw10.WatchLost", spec := "watchLost", unfollowed := true, recurses := true, apart := false, narrowed := true }
def WatchLostUptoSaid : Prop := watchLostUptoRow.holds Try.pinned (OpenSpec.upto watchLostSpec)

end Rows
end Go.Proofs.Ythfphhplghahjaa
