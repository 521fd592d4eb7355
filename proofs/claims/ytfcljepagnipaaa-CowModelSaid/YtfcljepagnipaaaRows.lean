/-
  No cell of these rows narrows 'for every input' (looked for: loops, veiled, ifaces, maps, wideKeys, modest, calm, conditions, laid).
  DERIVED. THE GIVEN ROWS OF THIS SEAT. 5 by the template 'for every input the law returns true; each argument reads behind the call as it read before'; 0 by the template 'total and deterministic' (their statements: YtfcljepagnipaaaTotals.lean).
  GIVEN WITH THE SEED: the statements are not yours to turn. If you find one false, say at which input.
  Laid BY PROGRAM, IN A SANDBOX (cutbox-rows.mjs): the forced cells as the released guide's own fill.sh prints them over the translation 61ffe56878b4a7a0… (all of the seat's roots in one cut). By AI agents, Wed Nov 11 2026. No macro, syntax, notation, axiom, sorry.
-/
import Derived.Test.YtfcljepagnipaaaChecked
import GoSem.Claim
import GoSem.ClaimJoined
import GoSem.ClaimMapViews
import Derived.JoinedTies
import Derived.KernelRfl
namespace Go.Proofs.Ytfcljepagnipaaa
/- THE CELL 'sum', in the pinned program and in every row, IS THE sha256 OF THE DUMP (.gsa) THAT YtfcljepagnipaaaProg.lean LOADS. Nothing in Lean hashes anything: it is a label: what it is worth is what the hold of that sum in a sandbox is worth. -/
noncomputable def Try.pinned : Pinned := { name := "ytfcljepagnipaaa", sum := "61ffe56878b4a7a0cdfabc46a4027ba2b8f6ddcb368b9c97148ad07074791f7e", checked := Try.checked }
namespace Rows
def none {H : Type} : Left H := { results := [], args := [] }

/-- 'gunwalelaw11.CowTells': WHATEVER THE INPUT: true; the input reads as it did. -/
def cowTellsSpec : ChangeSpec := { name := "cowTells", fn := fun _ => fun
  | [d1, d2, d3, d4, d5] => { results := [.lit (.bool true)], args := [d1, d2, d3, d4, d5] }
  | _ => none }
def cowTellsRow : OpenClaim := { program := "ytfcljepagnipaaa", sum := "61ffe56878b4a7a0cdfabc46a4027ba2b8f6ddcb368b9c97148ad07074791f7e", func := "gunwale/gunwalelaw11.CowTells", spec := "cowTells", recurses := true, apart := false }
def CowTellsSaid : Prop := cowTellsRow.holds Try.pinned (OpenSpec.ofChange cowTellsSpec)

/-- ITS FALSE NEIGHBOUR: 'it returns false'. Refute it at one input. -/
def cowTellsWrong : ChangeSpec := { name := "cowTells", fn := fun _ => fun
  | [d1, d2, d3, d4, d5] => { results := [.lit (.bool false)], args := [d1, d2, d3, d4, d5] }
  | _ => none }
def CowTellsWrongFalsely : Prop := cowTellsRow.holds Try.pinned (OpenSpec.ofChange cowTellsWrong)

/-- 'gunwalelaw11.CowOld': WHATEVER THE INPUT: true; the input reads as it did. -/
def cowOldSpec : ChangeSpec := { name := "cowOld", fn := fun _ => fun
  | [d1, d2, d3, d4, d5, d6] => { results := [.lit (.bool true)], args := [d1, d2, d3, d4, d5, d6] }
  | _ => none }
def cowOldRow : OpenClaim := { program := "ytfcljepagnipaaa", sum := "61ffe56878b4a7a0cdfabc46a4027ba2b8f6ddcb368b9c97148ad07074791f7e", func := "gunwale/gunwalelaw11.CowOld", spec := "cowOld", apart := false }
def CowOldSaid : Prop := cowOldRow.holds Try.pinned (OpenSpec.ofChange cowOldSpec)

/-- ITS FALSE NEIGHBOUR: 'it returns false'. Refute it at one input. -/
def cowOldWrong : ChangeSpec := { name := "cowOld", fn := fun _ => fun
  | [d1, d2, d3, d4, d5, d6] => { results := [.lit (.bool false)], args := [d1, d2, d3, d4, d5, d6] }
  | _ => none }
def CowOldWrongFalsely : Prop := cowOldRow.holds Try.pinned (OpenSpec.ofChange cowOldWrong)

/-- 'gunwalelaw11.CowNew': WHATEVER THE INPUT: true; the input reads as it did. -/
def cowNewSpec : ChangeSpec := { name := "cowNew", fn := fun _ => fun
  | [d1, d2, d3, d4, d5] => { results := [.lit (.bool true)], args := [d1, d2, d3, d4, d5] }
  | _ => none }
def cowNewRow : OpenClaim := { program := "ytfcljepagnipaaa", sum := "61ffe56878b4a7a0cdfabc46a4027ba2b8f6ddcb368b9c97148ad07074791f7e", func := "gunwale/gunwalelaw11.CowNew", spec := "cowNew", apart := false }
def CowNewSaid : Prop := cowNewRow.holds Try.pinned (OpenSpec.ofChange cowNewSpec)

/-- ITS FALSE NEIGHBOUR: 'it returns false'. Refute it at one input. -/
def cowNewWrong : ChangeSpec := { name := "cowNew", fn := fun _ => fun
  | [d1, d2, d3, d4, d5] => { results := [.lit (.bool false)], args := [d1, d2, d3, d4, d5] }
  | _ => none }
def CowNewWrongFalsely : Prop := cowNewRow.holds Try.pinned (OpenSpec.ofChange cowNewWrong)

/-- 'gunwalelaw11.CowModel': WHATEVER THE INPUT: true; the input reads as it did. -/
def cowModelSpec : ChangeSpec := { name := "cowModel", fn := fun _ => fun
  | [d] => { results := [.lit (.bool true)], args := [d] }
  | _ => none }
def cowModelRow : OpenClaim := { program := "ytfcljepagnipaaa", sum := "61ffe56878b4a7a0cdfabc46a4027ba2b8f6ddcb368b9c97148ad07074791f7e", func := "gunwale/gunwalelaw11.CowModel", spec := "cowModel", apart := false }
def CowModelSaid : Prop := cowModelRow.holds Try.pinned (OpenSpec.ofChange cowModelSpec)

/-- ITS FALSE NEIGHBOUR: 'it returns false'. Refute it at one input. -/
def cowModelWrong : ChangeSpec := { name := "cowModel", fn := fun _ => fun
  | [d] => { results := [.lit (.bool false)], args := [d] }
  | _ => none }
def CowModelWrongFalsely : Prop := cowModelRow.holds Try.pinned (OpenSpec.ofChange cowModelWrong)

/-- 'gunwalelaw11.CowShares': WHATEVER THE INPUT: true; the input reads as it did. -/
def cowSharesSpec : ChangeSpec := { name := "cowShares", fn := fun _ => fun
  | [d1, d2, d3, d4, d5] => { results := [.lit (.bool true)], args := [d1, d2, d3, d4, d5] }
  | _ => none }
def cowSharesRow : OpenClaim := { program := "ytfcljepagnipaaa", sum := "61ffe56878b4a7a0cdfabc46a4027ba2b8f6ddcb368b9c97148ad07074791f7e", func := "gunwale/gunwalelaw11.CowShares", spec := "cowShares", apart := false }
def CowSharesSaid : Prop := cowSharesRow.holds Try.pinned (OpenSpec.ofChange cowSharesSpec)

/-- ITS FALSE NEIGHBOUR: 'it returns false'. Refute it at one input. -/
def cowSharesWrong : ChangeSpec := { name := "cowShares", fn := fun _ => fun
  | [d1, d2, d3, d4, d5] => { results := [.lit (.bool false)], args := [d1, d2, d3, d4, d5] }
  | _ => none }
def CowSharesWrongFalsely : Prop := cowSharesRow.holds Try.pinned (OpenSpec.ofChange cowSharesWrong)

/- THE SECOND FORM. 'bulk': how many values and letters a reading holds, each counted each time it is reached (what is shared counts as often as it is met; a slice's spare places count too). A statement '..UptoSaid' is the law's where the arguments, and the package variables that the reading takes, are together of bulk at most 1048576: NARROWER than '..Said'. Prove '..Said' where nothing that the law and all that it calls make is longer than what came in: it says more and counts as full. Else prove '..UptoSaid'. A law counts once. -/
mutual
def uptoBulk {H : Type} : DataW H → Nat
  | .lit (.string bytes) => bytes.length + 1
  | .lit _ => 1
  | .nil => 1
  | .ptr d => uptoBulk d + 1
  | .slice elems spare => uptoBulkAll elems + uptoBulkAll spare + 1
  | .agg parts => uptoBulkAll parts + 1
  | .iface _ d => uptoBulk d + 1
  | .map entries => uptoBulkEntries entries + 1
  | .held _ => 1
def uptoBulkAll {H : Type} : List (DataW H) → Nat
  | [] => 0
  | d :: r => uptoBulk d + uptoBulkAll r
def uptoBulkEntries {H : Type} : List (Lit × DataW H) → Nat
  | [] => 0
  | x :: r => uptoBulkEntry x + uptoBulkEntries r
def uptoBulkEntry {H : Type} : Lit × DataW H → Nat
  | (.string bytes, d) => bytes.length + uptoBulk d + 1
  | (_, d) => uptoBulk d + 1
 end
def uptoSmall : (H : Type) → List (DataW H) → Bool := fun _ ds => decide (uptoBulkAll ds ≤ 1048576)
def OpenSpec.upto (s : _root_.Go.ChangeSpec) : _root_.Go.OpenSpec := { _root_.Go.OpenSpec.ofChange s with cond := some uptoSmall }

/-- 'gunwalelaw11.CowTells', WHERE WHAT IT READS IS OF BULK AT MOST 1048576: true; the input reads as it did. -/
def cowTellsUptoRow : OpenClaim := { program := "ytfcljepagnipaaa", sum := "61ffe56878b4a7a0cdfabc46a4027ba2b8f6ddcb368b9c97148ad07074791f7e", func := "gunwale/gunwalelaw11.CowTells", spec := "cowTells", recurses := true, apart := false, narrowed := true }
def CowTellsUptoSaid : Prop := cowTellsUptoRow.holds Try.pinned (OpenSpec.upto cowTellsSpec)

/-- 'gunwalelaw11.CowOld', WHERE WHAT IT READS IS OF BULK AT MOST 1048576: true; the input reads as it did. -/
def cowOldUptoRow : OpenClaim := { program := "ytfcljepagnipaaa", sum := "61ffe56878b4a7a0cdfabc46a4027ba2b8f6ddcb368b9c97148ad07074791f7e", func := "gunwale/gunwalelaw11.CowOld", spec := "cowOld", apart := false, narrowed := true }
def CowOldUptoSaid : Prop := cowOldUptoRow.holds Try.pinned (OpenSpec.upto cowOldSpec)

/-- 'gunwalelaw11.CowNew', WHERE WHAT IT READS IS OF BULK AT MOST 1048576: true; the input reads as it did. -/
def cowNewUptoRow : OpenClaim := { program := "ytfcljepagnipaaa", sum := "61ffe56878b4a7a0cdfabc46a4027ba2b8f6ddcb368b9c97148ad07074791f7e", func := "gunwale/gunwalelaw11.CowNew", spec := "cowNew", apart := false, narrowed := true }
def CowNewUptoSaid : Prop := cowNewUptoRow.holds Try.pinned (OpenSpec.upto cowNewSpec)

/-- 'gunwalelaw11.CowModel', WHERE WHAT IT READS IS OF BULK AT MOST 1048576: true; the input reads as it did. -/
def cowModelUptoRow : OpenClaim := { program := "ytfcljepagnipaaa", sum := "61ffe56878b4a7a0cdfabc46a4027ba2b8f6ddcb368b9c97148ad07074791f7e", func := "gunwale/gunwalelaw11.CowModel", spec := "cowModel", apart := false, narrowed := true }
def CowModelUptoSaid : Prop := cowModelUptoRow.holds Try.pinned (OpenSpec.upto cowModelSpec)

/-- 'gunwalelaw11.CowShares', WHERE WHAT IT READS IS OF BULK AT MOST 1048576: true; the input reads as it did. -/
def cowSharesUptoRow : OpenClaim := { program := "ytfcljepagnipaaa", sum := "61ffe56878b4a7a0cdfabc46a4027ba2b8f6ddcb368b9c97148ad07074791f7e", func := "gunwale/gunwalelaw11.CowShares", spec := "cowShares", apart := false, narrowed := true }
def CowSharesUptoSaid : Prop := cowSharesUptoRow.holds Try.pinned (OpenSpec.upto cowSharesSpec)

end Rows
end Go.Proofs.Ytfcljepagnipaaa
