/-
  No cell of these rows narrows 'for every input' (looked for: loops, veiled, ifaces, maps, wideKeys, modest, calm, conditions, laid).
  DERIVED. THE GIVEN ROWS OF THIS SEAT. 6 by the template 'for every input the law returns true; each argument reads behind the call as it read before'; 0 by the template 'total and deterministic' (their statements: YtnmhgfeglfcbgaaTotals.lean).
  GIVEN WITH THE SEED: the statements are not yours to turn. If you find one false, say at which input.
  Laid BY PROGRAM, IN A SANDBOX (cutbox-rows.mjs): the forced cells as the released guide's own fill.sh prints them over the translation 51aafc7b4029891d… (all of the seat's roots in one cut). By AI agents, Wed Nov 11 2026. No macro, syntax, notation, axiom, sorry.
-/
import Derived.Test.YtnmhgfeglfcbgaaChecked
import GoSem.Claim
import GoSem.ClaimJoined
import GoSem.ClaimMapViews
import Derived.JoinedTies
import Derived.KernelRfl
namespace Go.Proofs.Ytnmhgfeglfcbgaa
/- THE CELL 'sum', in the pinned program and in every row, IS THE sha256 OF THE DUMP (.gsa) THAT YtnmhgfeglfcbgaaProg.lean LOADS. Nothing in Lean hashes anything: it is a label: what it is worth is what the hold of that sum in a sandbox is worth. -/
noncomputable def Try.pinned : Pinned := { name := "ytnmhgfeglfcbgaa", sum := "51aafc7b4029891da1360d23d9a72a08f68ab815f1e0c6d2e4ad43c48314c788", checked := Try.checked }
namespace Rows
def none {H : Type} : Left H := { results := [], args := [] }

/-- 'gunwalelaw17.BatonTells': WHATEVER THE INPUT: true; the input reads as it did. -/
def batonTellsSpec : ChangeSpec := { name := "batonTells", fn := fun _ => fun
  | [d1, d2, d3, d4] => { results := [.lit (.bool true)], args := [d1, d2, d3, d4] }
  | _ => none }
def batonTellsRow : OpenClaim := { program := "ytnmhgfeglfcbgaa", sum := "51aafc7b4029891da1360d23d9a72a08f68ab815f1e0c6d2e4ad43c48314c788", func := "gunwale/gunwalelaw17.BatonTells", spec := "batonTells", inPlace := ["(*sync.WaitGroup).Add", "internal/race.ReleaseMerge", "internal/race.Disable", "internal/race.Enable", "internal/synctest.IsInBubble", "internal/synctest.Associate[sync.WaitGroup]", "sync.fatal", "sync/atomic.OrUint64", "sync/atomic.AddUint64", "internal/race.Read", "sync/atomic.LoadUint64", "sync/atomic.StoreUint64", "internal/synctest.Disassociate[sync.WaitGroup]", "sync.runtime_Semrelease", "(*sync.WaitGroup).Done", "(*sync.WaitGroup).Wait", "internal/race.Acquire", "internal/synctest.IsAssociated[sync.WaitGroup]", "sync/atomic.CompareAndSwapUint64", "internal/race.Write", "sync.runtime_SemacquireWaitGroup"], unfollowed := true, recurses := true, leaving := true, apart := false }
def BatonTellsSaid : Prop := batonTellsRow.holds Try.pinned (OpenSpec.ofChange batonTellsSpec)

/-- ITS FALSE NEIGHBOUR: 'it returns false'. Refute it at one input. -/
def batonTellsWrong : ChangeSpec := { name := "batonTells", fn := fun _ => fun
  | [d1, d2, d3, d4] => { results := [.lit (.bool false)], args := [d1, d2, d3, d4] }
  | _ => none }
def BatonTellsWrongFalsely : Prop := batonTellsRow.holds Try.pinned (OpenSpec.ofChange batonTellsWrong)

/-- 'gunwalelaw17.BatonActs': WHATEVER THE INPUT: true; the input reads as it did. -/
def batonActsSpec : ChangeSpec := { name := "batonActs", fn := fun _ => fun
  | [d1, d2] => { results := [.lit (.bool true)], args := [d1, d2] }
  | _ => none }
def batonActsRow : OpenClaim := { program := "ytnmhgfeglfcbgaa", sum := "51aafc7b4029891da1360d23d9a72a08f68ab815f1e0c6d2e4ad43c48314c788", func := "gunwale/gunwalelaw17.BatonActs", spec := "batonActs", inPlace := ["(*sync.WaitGroup).Add", "internal/race.ReleaseMerge", "internal/race.Disable", "internal/race.Enable", "internal/synctest.IsInBubble", "internal/synctest.Associate[sync.WaitGroup]", "sync.fatal", "sync/atomic.OrUint64", "sync/atomic.AddUint64", "internal/race.Read", "sync/atomic.LoadUint64", "sync/atomic.StoreUint64", "internal/synctest.Disassociate[sync.WaitGroup]", "sync.runtime_Semrelease", "(*sync.WaitGroup).Done", "(*sync.WaitGroup).Wait", "internal/race.Acquire", "internal/synctest.IsAssociated[sync.WaitGroup]", "sync/atomic.CompareAndSwapUint64", "internal/race.Write", "sync.runtime_SemacquireWaitGroup"], unfollowed := true, recurses := true, leaving := true, apart := false }
def BatonActsSaid : Prop := batonActsRow.holds Try.pinned (OpenSpec.ofChange batonActsSpec)

/-- ITS FALSE NEIGHBOUR: 'it returns false'. Refute it at one input. -/
def batonActsWrong : ChangeSpec := { name := "batonActs", fn := fun _ => fun
  | [d1, d2] => { results := [.lit (.bool false)], args := [d1, d2] }
  | _ => none }
def BatonActsWrongFalsely : Prop := batonActsRow.holds Try.pinned (OpenSpec.ofChange batonActsWrong)

/-- 'gunwalelaw17.BatonLocks': WHATEVER THE INPUT: true; the input reads as it did. -/
def batonLocksSpec : ChangeSpec := { name := "batonLocks", fn := fun _ => fun
  | [d1, d2] => { results := [.lit (.bool true)], args := [d1, d2] }
  | _ => none }
def batonLocksRow : OpenClaim := { program := "ytnmhgfeglfcbgaa", sum := "51aafc7b4029891da1360d23d9a72a08f68ab815f1e0c6d2e4ad43c48314c788", func := "gunwale/gunwalelaw17.BatonLocks", spec := "batonLocks", inPlace := ["(*sync.WaitGroup).Add", "internal/race.ReleaseMerge", "internal/race.Disable", "internal/race.Enable", "internal/synctest.IsInBubble", "internal/synctest.Associate[sync.WaitGroup]", "sync.fatal", "sync/atomic.OrUint64", "sync/atomic.AddUint64", "internal/race.Read", "sync/atomic.LoadUint64", "sync/atomic.StoreUint64", "internal/synctest.Disassociate[sync.WaitGroup]", "sync.runtime_Semrelease", "(*sync.WaitGroup).Done", "(*sync.WaitGroup).Wait", "internal/race.Acquire", "internal/synctest.IsAssociated[sync.WaitGroup]", "sync/atomic.CompareAndSwapUint64", "internal/race.Write", "sync.runtime_SemacquireWaitGroup"], unfollowed := true, recurses := true, leaving := true, apart := false }
def BatonLocksSaid : Prop := batonLocksRow.holds Try.pinned (OpenSpec.ofChange batonLocksSpec)

/-- ITS FALSE NEIGHBOUR: 'it returns false'. Refute it at one input. -/
def batonLocksWrong : ChangeSpec := { name := "batonLocks", fn := fun _ => fun
  | [d1, d2] => { results := [.lit (.bool false)], args := [d1, d2] }
  | _ => none }
def BatonLocksWrongFalsely : Prop := batonLocksRow.holds Try.pinned (OpenSpec.ofChange batonLocksWrong)

/-- 'gunwalelaw17.BatonMore': WHATEVER THE INPUT: true; the input reads as it did. -/
def batonMoreSpec : ChangeSpec := { name := "batonMore", fn := fun _ => fun
  | [d1, d2, d3] => { results := [.lit (.bool true)], args := [d1, d2, d3] }
  | _ => none }
def batonMoreRow : OpenClaim := { program := "ytnmhgfeglfcbgaa", sum := "51aafc7b4029891da1360d23d9a72a08f68ab815f1e0c6d2e4ad43c48314c788", func := "gunwale/gunwalelaw17.BatonMore", spec := "batonMore", inPlace := ["(*sync.WaitGroup).Add", "internal/race.ReleaseMerge", "internal/race.Disable", "internal/race.Enable", "internal/synctest.IsInBubble", "internal/synctest.Associate[sync.WaitGroup]", "sync.fatal", "sync/atomic.OrUint64", "sync/atomic.AddUint64", "internal/race.Read", "sync/atomic.LoadUint64", "sync/atomic.StoreUint64", "internal/synctest.Disassociate[sync.WaitGroup]", "sync.runtime_Semrelease", "(*sync.WaitGroup).Done", "(*sync.WaitGroup).Wait", "internal/race.Acquire", "internal/synctest.IsAssociated[sync.WaitGroup]", "sync/atomic.CompareAndSwapUint64", "internal/race.Write", "sync.runtime_SemacquireWaitGroup"], unfollowed := true, recurses := true, leaving := true, apart := false }
def BatonMoreSaid : Prop := batonMoreRow.holds Try.pinned (OpenSpec.ofChange batonMoreSpec)

/-- ITS FALSE NEIGHBOUR: 'it returns false'. Refute it at one input. -/
def batonMoreWrong : ChangeSpec := { name := "batonMore", fn := fun _ => fun
  | [d1, d2, d3] => { results := [.lit (.bool false)], args := [d1, d2, d3] }
  | _ => none }
def BatonMoreWrongFalsely : Prop := batonMoreRow.holds Try.pinned (OpenSpec.ofChange batonMoreWrong)

/-- 'gunwalelaw17.BatonEnds': WHATEVER THE INPUT: true; the input reads as it did. -/
def batonEndsSpec : ChangeSpec := { name := "batonEnds", fn := fun _ => fun
  | [d1, d2] => { results := [.lit (.bool true)], args := [d1, d2] }
  | _ => none }
def batonEndsRow : OpenClaim := { program := "ytnmhgfeglfcbgaa", sum := "51aafc7b4029891da1360d23d9a72a08f68ab815f1e0c6d2e4ad43c48314c788", func := "gunwale/gunwalelaw17.BatonEnds", spec := "batonEnds", inPlace := ["(*sync.WaitGroup).Add", "internal/race.ReleaseMerge", "internal/race.Disable", "internal/race.Enable", "internal/synctest.IsInBubble", "internal/synctest.Associate[sync.WaitGroup]", "sync.fatal", "sync/atomic.OrUint64", "sync/atomic.AddUint64", "internal/race.Read", "sync/atomic.LoadUint64", "sync/atomic.StoreUint64", "internal/synctest.Disassociate[sync.WaitGroup]", "sync.runtime_Semrelease", "(*sync.WaitGroup).Done", "(*sync.WaitGroup).Wait", "internal/race.Acquire", "internal/synctest.IsAssociated[sync.WaitGroup]", "sync/atomic.CompareAndSwapUint64", "internal/race.Write", "sync.runtime_SemacquireWaitGroup"], unfollowed := true, recurses := true, leaving := true, apart := false }
def BatonEndsSaid : Prop := batonEndsRow.holds Try.pinned (OpenSpec.ofChange batonEndsSpec)

/-- ITS FALSE NEIGHBOUR: 'it returns false'. Refute it at one input. -/
def batonEndsWrong : ChangeSpec := { name := "batonEnds", fn := fun _ => fun
  | [d1, d2] => { results := [.lit (.bool false)], args := [d1, d2] }
  | _ => none }
def BatonEndsWrongFalsely : Prop := batonEndsRow.holds Try.pinned (OpenSpec.ofChange batonEndsWrong)

/-- 'gunwalelaw17.BatonNotes': WHATEVER THE INPUT: true; the input reads as it did. -/
def batonNotesSpec : ChangeSpec := { name := "batonNotes", fn := fun _ => fun
  | [d1, d2] => { results := [.lit (.bool true)], args := [d1, d2] }
  | _ => none }
def batonNotesRow : OpenClaim := { program := "ytnmhgfeglfcbgaa", sum := "51aafc7b4029891da1360d23d9a72a08f68ab815f1e0c6d2e4ad43c48314c788", func := "gunwale/gunwalelaw17.BatonNotes", spec := "batonNotes", inPlace := ["(*sync.WaitGroup).Add", "internal/race.ReleaseMerge", "internal/race.Disable", "internal/race.Enable", "internal/synctest.IsInBubble", "internal/synctest.Associate[sync.WaitGroup]", "sync.fatal", "sync/atomic.OrUint64", "sync/atomic.AddUint64", "internal/race.Read", "sync/atomic.LoadUint64", "sync/atomic.StoreUint64", "internal/synctest.Disassociate[sync.WaitGroup]", "sync.runtime_Semrelease", "(*sync.WaitGroup).Done", "(*sync.WaitGroup).Wait", "internal/race.Acquire", "internal/synctest.IsAssociated[sync.WaitGroup]", "sync/atomic.CompareAndSwapUint64", "internal/race.Write", "sync.runtime_SemacquireWaitGroup"], unfollowed := true, recurses := true, leaving := true, apart := false }
def BatonNotesSaid : Prop := batonNotesRow.holds Try.pinned (OpenSpec.ofChange batonNotesSpec)

/-- ITS FALSE NEIGHBOUR: 'it returns false'. Refute it at one input. -/
def batonNotesWrong : ChangeSpec := { name := "batonNotes", fn := fun _ => fun
  | [d1, d2] => { results := [.lit (.bool false)], args := [d1, d2] }
  | _ => none }
def BatonNotesWrongFalsely : Prop := batonNotesRow.holds Try.pinned (OpenSpec.ofChange batonNotesWrong)

/- THE SECOND FORM. 'bulk': how many values and letters a reading holds, each counted each time it is reached (what is shared counts as often as it is met; a slice's spare places count too). A statement '..UptoSaid' is the law's where the arguments, and the package variables that the reading takes, are together of bulk at most 1048576: NARROWER than '..Said'. Prove '..Said' where nothing that the law and all that it calls make is longer than what came in: it says more and counts as full. Else prove '..UptoSaid'. A law counts once. -/
mutual
def uptoBulk {H : Type} : DataW H → Nat
  | .lit (.string bytes) => bytes.length + 1
  | .lit _ => 1
  | .nil => 1
  | .ptr d => uptoBulk d + 1
  | .slice elems spare => uptoBulkAll elems + uptoBulkAll spare + 1
  | .agg parts => uptoBulkAll parts + 1
  | .iface _ d => uptoBulk d + 1
  | .map entries => uptoBulkEntries entries + 1
  | .held _ => 1
def uptoBulkAll {H : Type} : List (DataW H) → Nat
  | [] => 0
  | d :: r => uptoBulk d + uptoBulkAll r
def uptoBulkEntries {H : Type} : List (Lit × DataW H) → Nat
  | [] => 0
  | x :: r => uptoBulkEntry x + uptoBulkEntries r
def uptoBulkEntry {H : Type} : Lit × DataW H → Nat
  | (.string bytes, d) => bytes.length + uptoBulk d + 1
  | (_, d) => uptoBulk d + 1
 end
def uptoSmall : (H : Type) → List (DataW H) → Bool := fun _ ds => decide (uptoBulkAll ds ≤ 1048576)
def OpenSpec.upto (s : _root_.Go.ChangeSpec) : _root_.Go.OpenSpec := { _root_.Go.OpenSpec.ofChange s with cond := some uptoSmall }

/-- 'gunwalelaw17.BatonTells', WHERE WHAT IT READS IS OF BULK AT MOST 1048576: true; the input reads as it did. -/
def batonTellsUptoRow : OpenClaim := { program := "ytnmhgfeglfcbgaa", sum := "51aafc7b4029891da1360d23d9a72a08f68ab815f1e0c6d2e4ad43c48314c788", func := "gunwale/gunwalelaw17.BatonTells", spec := "batonTells", inPlace := ["(*sync.WaitGroup).Add", "internal/race.ReleaseMerge", "internal/race.Disable", "internal/race.Enable", "internal/synctest.IsInBubble", "internal/synctest.Associate[sync.WaitGroup]", "sync.fatal", "sync/atomic.OrUint64", "sync/atomic.AddUint64", "internal/race.Read", "sync/atomic.LoadUint64", "sync/atomic.StoreUint64", "internal/synctest.Disassociate[sync.WaitGroup]", "sync.runtime_Semrelease", "(*sync.WaitGroup).Done", "(*sync.WaitGroup).Wait", "internal/race.Acquire", "internal/synctest.IsAssociated[sync.WaitGroup]", "sync/atomic.CompareAndSwapUint64", "internal/race.Write", "sync.runtime_SemacquireWaitGroup"], unfollowed := true, recurses := true, leaving := true, apart := false, narrowed := true }
def BatonTellsUptoSaid : Prop := batonTellsUptoRow.holds Try.pinned (OpenSpec.upto batonTellsSpec)

/-- 'gunwalelaw17.BatonActs', WHERE WHAT IT READS IS OF BULK AT MOST 1048576: true; the input reads as it did. -/
def batonActsUptoRow : OpenClaim := { program := "ytnmhgfeglfcbgaa", sum := "51aafc7b4029891da1360d23d9a72a08f68ab815f1e0c6d2e4ad43c48314c788", func := "gunwale/gunwalelaw17.BatonActs", spec := "batonActs", inPlace := ["(*sync.WaitGroup).Add", "internal/race.ReleaseMerge", "internal/race.Disable", "internal/race.Enable", "internal/synctest.IsInBubble", "internal/synctest.Associate[sync.WaitGroup]", "sync.fatal", "sync/atomic.OrUint64", "sync/atomic.AddUint64", "internal/race.Read", "sync/atomic.LoadUint64", "sync/atomic.StoreUint64", "internal/synctest.Disassociate[sync.WaitGroup]", "sync.runtime_Semrelease", "(*sync.WaitGroup).Done", "(*sync.WaitGroup).Wait", "internal/race.Acquire", "internal/synctest.IsAssociated[sync.WaitGroup]", "sync/atomic.CompareAndSwapUint64", "internal/race.Write", "sync.runtime_SemacquireWaitGroup"], unfollowed := true, recurses := true, leaving := true, apart := false, narrowed := true }
def BatonActsUptoSaid : Prop := batonActsUptoRow.holds Try.pinned (OpenSpec.upto batonActsSpec)

/-- 'gunwalelaw17.BatonLocks', WHERE WHAT IT READS IS OF BULK AT MOST 1048576: true; the input reads as it did. -/
def batonLocksUptoRow : OpenClaim := { program := "ytnmhgfeglfcbgaa", sum := "51aafc7b4029891da1360d23d9a72a08f68ab815f1e0c6d2e4ad43c48314c788", func := "gunwale/gunwalelaw17.BatonLocks", spec := "batonLocks", inPlace := ["(*sync.WaitGroup).Add", "internal/race.ReleaseMerge", "internal/race.Disable", "internal/race.Enable", "internal/synctest.IsInBubble", "internal/synctest.Associate[sync.WaitGroup]", "sync.fatal", "sync/atomic.OrUint64", "sync/atomic.AddUint64", "internal/race.Read", "sync/atomic.LoadUint64", "sync/atomic.StoreUint64", "internal/synctest.Disassociate[sync.WaitGroup]", "sync.runtime_Semrelease", "(*sync.WaitGroup).Done", "(*sync.WaitGroup).Wait", "internal/race.Acquire", "internal/synctest.IsAssociated[sync.WaitGroup]", "sync/atomic.CompareAndSwapUint64", "internal/race.Write", "sync.runtime_SemacquireWaitGroup"], unfollowed := true, recurses := true, leaving := true, apart := false, narrowed := true }
def BatonLocksUptoSaid : Prop := batonLocksUptoRow.holds Try.pinned (OpenSpec.upto batonLocksSpec)

/-- 'gunwalelaw17.BatonMore', WHERE WHAT IT READS IS OF BULK AT MOST 1048576: true; the input reads as it did. -/
def batonMoreUptoRow : OpenClaim := { program := "ytnmhgfeglfcbgaa", sum := "51aafc7b4029891da1360d23d9a72a08f68ab815f1e0c6d2e4ad43c48314c788", func := "gunwale/gunwalelaw17.BatonMore", spec := "batonMore", inPlace := ["(*sync.WaitGroup).Add", "internal/race.ReleaseMerge", "internal/race.Disable", "internal/race.Enable", "internal/synctest.IsInBubble", "internal/synctest.Associate[sync.WaitGroup]", "sync.fatal", "sync/atomic.OrUint64", "sync/atomic.AddUint64", "internal/race.Read", "sync/atomic.LoadUint64", "sync/atomic.StoreUint64", "internal/synctest.Disassociate[sync.WaitGroup]", "sync.runtime_Semrelease", "(*sync.WaitGroup).Done", "(*sync.WaitGroup).Wait", "internal/race.Acquire", "internal/synctest.IsAssociated[sync.WaitGroup]", "sync/atomic.CompareAndSwapUint64", "internal/race.Write", "sync.runtime_SemacquireWaitGroup"], unfollowed := true, recurses := true, leaving := true, apart := false, narrowed := true }
def BatonMoreUptoSaid : Prop := batonMoreUptoRow.holds Try.pinned (OpenSpec.upto batonMoreSpec)

/-- 'gunwalelaw17.BatonEnds', WHERE WHAT IT READS IS OF BULK AT MOST 1048576: true; the input reads as it did. -/
def batonEndsUptoRow : OpenClaim := { program := "ytnmhgfeglfcbgaa", sum := "51aafc7b4029891da1360d23d9a72a08f68ab815f1e0c6d2e4ad43c48314c788", func := "gunwale/gunwalelaw17.BatonEnds", spec := "batonEnds", inPlace := ["(*sync.WaitGroup).Add", "internal/race.ReleaseMerge", "internal/race.Disable", "internal/race.Enable", "internal/synctest.IsInBubble", "internal/synctest.Associate[sync.WaitGroup]", "sync.fatal", "sync/atomic.OrUint64", "sync/atomic.AddUint64", "internal/race.Read", "sync/atomic.LoadUint64", "sync/atomic.StoreUint64", "internal/synctest.Disassociate[sync.WaitGroup]", "sync.runtime_Semrelease", "(*sync.WaitGroup).Done", "(*sync.WaitGroup).Wait", "internal/race.Acquire", "internal/synctest.IsAssociated[sync.WaitGroup]", "sync/atomic.CompareAndSwapUint64", "internal/race.Write", "sync.runtime_SemacquireWaitGroup"], unfollowed := true, recurses := true, leaving := true, apart := false, narrowed := true }
def BatonEndsUptoSaid : Prop := batonEndsUptoRow.holds Try.pinned (OpenSpec.upto batonEndsSpec)

/-- 'gunwalelaw17.BatonNotes', WHERE WHAT IT READS IS OF BULK AT MOST 1048576: true; the input reads as it did. -/
def batonNotesUptoRow : OpenClaim := { program := "ytnmhgfeglfcbgaa", sum := "51aafc7b4029891da1360d23d9a72a08f68ab815f1e0c6d2e4ad43c48314c788", func := "gunwale/gunwalelaw17.BatonNotes", spec := "batonNotes", inPlace := ["(*sync.WaitGroup).Add", "internal/race.ReleaseMerge", "internal/race.Disable", "internal/race.Enable", "internal/synctest.IsInBubble", "internal/synctest.Associate[sync.WaitGroup]", "sync.fatal", "sync/atomic.OrUint64", "sync/atomic.AddUint64", "internal/race.Read", "sync/atomic.LoadUint64", "sync/atomic.StoreUint64", "internal/synctest.Disassociate[sync.WaitGroup]", "sync.runtime_Semrelease", "(*sync.WaitGroup).Done", "(*sync.WaitGroup).Wait", "internal/race.Acquire", "internal/synctest.IsAssociated[sync.WaitGroup]", "sync/atomic.CompareAndSwapUint64", "internal/race.Write", "sync.runtime_SemacquireWaitGroup"], unfollowed := true, recurses := true, leaving := true, apart := false, narrowed := true }
def BatonNotesUptoSaid : Prop := batonNotesUptoRow.holds Try.pinned (OpenSpec.upto batonNotesSpec)

end Rows
end Go.Proofs.Ytnmhgfeglfcbgaa
