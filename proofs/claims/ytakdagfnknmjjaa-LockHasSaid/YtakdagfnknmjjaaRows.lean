/-
  No cell of these rows narrows 'for every input' (looked for: loops, veiled, ifaces, maps, wideKeys, modest, calm, conditions, laid).
  DERIVED. THE GIVEN ROWS OF THIS SEAT. 6 by the template 'for every input the law returns true; each argument reads behind the call as it read before'; 0 by the template 'total and deterministic' (their statements: YtakdagfnknmjjaaTotals.lean).
  GIVEN WITH THE SEED: the statements are not yours to turn. If you find one false, say at which input.
  Laid BY PROGRAM, IN A SANDBOX (cutbox-rows.mjs): the forced cells as the released guide's own fill.sh prints them over the translation 2c4742874c23e589… (all of the seat's roots in one cut). By AI agents, Wed Nov 11 2026. No macro, syntax, notation, axiom, sorry.
-/
import Derived.Test.YtakdagfnknmjjaaChecked
import GoSem.Claim
import GoSem.ClaimJoined
import GoSem.ClaimMapViews
import Derived.JoinedTies
import Derived.KernelRfl
namespace Go.Proofs.Ytakdagfnknmjjaa
/- THE CELL 'sum', in the pinned program and in every row, IS THE sha256 OF THE DUMP (.gsa) THAT YtakdagfnknmjjaaProg.lean LOADS. Nothing in Lean hashes anything: it is a label: what it is worth is what the hold of that sum in a sandbox is worth. -/
noncomputable def Try.pinned : Pinned := { name := "ytakdagfnknmjjaa", sum := "2c4742874c23e58944705f3232847ffcb81e5f3944e56545128723e39694cc66", checked := Try.checked }
namespace Rows
def none {H : Type} : Left H := { results := [], args := [] }

/-- 'gunwalelaw16.LockTells': WHATEVER THE INPUT: true; the input reads as it did. -/
def lockTellsSpec : ChangeSpec := { name := "lockTells", fn := fun _ => fun
  | [d1, d2, d3] => { results := [.lit (.bool true)], args := [d1, d2, d3] }
  | _ => none }
def lockTellsRow : OpenClaim := { program := "ytakdagfnknmjjaa", sum := "2c4742874c23e58944705f3232847ffcb81e5f3944e56545128723e39694cc66", func := "gunwale/gunwalelaw16.LockTells", spec := "lockTells", unfollowed := true, recurses := true, apart := false }
def LockTellsSaid : Prop := lockTellsRow.holds Try.pinned (OpenSpec.ofChange lockTellsSpec)

/-- ITS FALSE NEIGHBOUR: 'it returns false'. Refute it at one input. -/
def lockTellsWrong : ChangeSpec := { name := "lockTells", fn := fun _ => fun
  | [d1, d2, d3] => { results := [.lit (.bool false)], args := [d1, d2, d3] }
  | _ => none }
def LockTellsWrongFalsely : Prop := lockTellsRow.holds Try.pinned (OpenSpec.ofChange lockTellsWrong)

/-- 'gunwalelaw16.LockOne': WHATEVER THE INPUT: true; the input reads as it did. -/
def lockOneSpec : ChangeSpec := { name := "lockOne", fn := fun _ => fun
  | [d] => { results := [.lit (.bool true)], args := [d] }
  | _ => none }
def lockOneRow : OpenClaim := { program := "ytakdagfnknmjjaa", sum := "2c4742874c23e58944705f3232847ffcb81e5f3944e56545128723e39694cc66", func := "gunwale/gunwalelaw16.LockOne", spec := "lockOne", unfollowed := true, recurses := true, apart := false }
def LockOneSaid : Prop := lockOneRow.holds Try.pinned (OpenSpec.ofChange lockOneSpec)

/-- ITS FALSE NEIGHBOUR: 'it returns false'. Refute it at one input. -/
def lockOneWrong : ChangeSpec := { name := "lockOne", fn := fun _ => fun
  | [d] => { results := [.lit (.bool false)], args := [d] }
  | _ => none }
def LockOneWrongFalsely : Prop := lockOneRow.holds Try.pinned (OpenSpec.ofChange lockOneWrong)

/-- 'gunwalelaw16.LockTurns': WHATEVER THE INPUT: true; the input reads as it did. -/
def lockTurnsSpec : ChangeSpec := { name := "lockTurns", fn := fun _ => fun
  | [d1, d2] => { results := [.lit (.bool true)], args := [d1, d2] }
  | _ => none }
def lockTurnsRow : OpenClaim := { program := "ytakdagfnknmjjaa", sum := "2c4742874c23e58944705f3232847ffcb81e5f3944e56545128723e39694cc66", func := "gunwale/gunwalelaw16.LockTurns", spec := "lockTurns", unfollowed := true, recurses := true, apart := false }
def LockTurnsSaid : Prop := lockTurnsRow.holds Try.pinned (OpenSpec.ofChange lockTurnsSpec)

/-- ITS FALSE NEIGHBOUR: 'it returns false'. Refute it at one input. -/
def lockTurnsWrong : ChangeSpec := { name := "lockTurns", fn := fun _ => fun
  | [d1, d2] => { results := [.lit (.bool false)], args := [d1, d2] }
  | _ => none }
def LockTurnsWrongFalsely : Prop := lockTurnsRow.holds Try.pinned (OpenSpec.ofChange lockTurnsWrong)

/-- 'gunwalelaw16.LockDrops': WHATEVER THE INPUT: true; the input reads as it did. -/
def lockDropsSpec : ChangeSpec := { name := "lockDrops", fn := fun _ => fun
  | [d1, d2] => { results := [.lit (.bool true)], args := [d1, d2] }
  | _ => none }
def lockDropsRow : OpenClaim := { program := "ytakdagfnknmjjaa", sum := "2c4742874c23e58944705f3232847ffcb81e5f3944e56545128723e39694cc66", func := "gunwale/gunwalelaw16.LockDrops", spec := "lockDrops", unfollowed := true, recurses := true, apart := false }
def LockDropsSaid : Prop := lockDropsRow.holds Try.pinned (OpenSpec.ofChange lockDropsSpec)

/-- ITS FALSE NEIGHBOUR: 'it returns false'. Refute it at one input. -/
def lockDropsWrong : ChangeSpec := { name := "lockDrops", fn := fun _ => fun
  | [d1, d2] => { results := [.lit (.bool false)], args := [d1, d2] }
  | _ => none }
def LockDropsWrongFalsely : Prop := lockDropsRow.holds Try.pinned (OpenSpec.ofChange lockDropsWrong)

/-- 'gunwalelaw16.LockOnly': WHATEVER THE INPUT: true; the input reads as it did. -/
def lockOnlySpec : ChangeSpec := { name := "lockOnly", fn := fun _ => fun
  | [d1, d2, d3] => { results := [.lit (.bool true)], args := [d1, d2, d3] }
  | _ => none }
def lockOnlyRow : OpenClaim := { program := "ytakdagfnknmjjaa", sum := "2c4742874c23e58944705f3232847ffcb81e5f3944e56545128723e39694cc66", func := "gunwale/gunwalelaw16.LockOnly", spec := "lockOnly", unfollowed := true, recurses := true, apart := false }
def LockOnlySaid : Prop := lockOnlyRow.holds Try.pinned (OpenSpec.ofChange lockOnlySpec)

/-- ITS FALSE NEIGHBOUR: 'it returns false'. Refute it at one input. -/
def lockOnlyWrong : ChangeSpec := { name := "lockOnly", fn := fun _ => fun
  | [d1, d2, d3] => { results := [.lit (.bool false)], args := [d1, d2, d3] }
  | _ => none }
def LockOnlyWrongFalsely : Prop := lockOnlyRow.holds Try.pinned (OpenSpec.ofChange lockOnlyWrong)

/-- 'gunwalelaw16.LockHas': WHATEVER THE INPUT: true; the input reads as it did. -/
def lockHasSpec : ChangeSpec := { name := "lockHas", fn := fun _ => fun
  | [d1, d2, d3] => { results := [.lit (.bool true)], args := [d1, d2, d3] }
  | _ => none }
def lockHasRow : OpenClaim := { program := "ytakdagfnknmjjaa", sum := "2c4742874c23e58944705f3232847ffcb81e5f3944e56545128723e39694cc66", func := "gunwale/gunwalelaw16.LockHas", spec := "lockHas", unfollowed := true, recurses := true, apart := false }
def LockHasSaid : Prop := lockHasRow.holds Try.pinned (OpenSpec.ofChange lockHasSpec)

/-- ITS FALSE NEIGHBOUR: 'it returns false'. Refute it at one input. -/
def lockHasWrong : ChangeSpec := { name := "lockHas", fn := fun _ => fun
  | [d1, d2, d3] => { results := [.lit (.bool false)], args := [d1, d2, d3] }
  | _ => none }
def LockHasWrongFalsely : Prop := lockHasRow.holds Try.pinned (OpenSpec.ofChange lockHasWrong)

/- THE SECOND FORM. 'bulk': how many values and letters a reading holds, each counted each time it is reached (what is shared counts as often as it is met; a slice's spare places count too). A statement '..UptoSaid' is the law's where the arguments, and the package variables that the reading takes, are together of bulk at most 1048576: NARROWER than '..Said'. Prove '..Said' where nothing that the law and all that it calls make is longer than what came in: it says more and counts as full. Else prove '..UptoSaid'. A law counts once. -/
mutual
def uptoBulk {H : Type} : DataW H → Nat
  | .lit (.string bytes) => bytes.length + 1
  | .lit _ => 1
  | .nil => 1
  | .ptr d => uptoBulk d + 1
  | .slice elems spare => uptoBulkAll elems + uptoBulkAll spare + 1
  | .agg parts => uptoBulkAll parts + 1
  | .iface _ d => uptoBulk d + 1
  | .map entries => uptoBulkEntries entries + 1
  | .held _ => 1
def uptoBulkAll {H : Type} : List (DataW H) → Nat
  | [] => 0
  | d :: r => uptoBulk d + uptoBulkAll r
def uptoBulkEntries {H : Type} : List (Lit × DataW H) → Nat
  | [] => 0
  | x :: r => uptoBulkEntry x + uptoBulkEntries r
def uptoBulkEntry {H : Type} : Lit × DataW H → Nat
  | (.string bytes, d) => bytes.length + uptoBulk d + 1
  | (_, d) => uptoBulk d + 1
 end
def uptoSmall : (H : Type) → List (DataW H) → Bool := fun _ ds => decide (uptoBulkAll ds ≤ 1048576)
def OpenSpec.upto (s : _root_.Go.ChangeSpec) : _root_.Go.OpenSpec := { _root_.Go.OpenSpec.ofChange s with cond := some uptoSmall }

/-- 'gunwalelaw16.LockTells', WHERE WHAT IT READS IS OF BULK AT MOST 1048576: true; the input reads as it did. -/
def lockTellsUptoRow : OpenClaim := { program := "ytakdagfnknmjjaa", sum := "2c4742874c23e58944705f3232847ffcb81e5f3944e56545128723e39694cc66", func := "gunwale/gunwalelaw16.LockTells", spec := "lockTells", unfollowed := true, recurses := true, apart := false, narrowed := true }
def LockTellsUptoSaid : Prop := lockTellsUptoRow.holds Try.pinned (OpenSpec.upto lockTellsSpec)

/-- 'gunwalelaw16.LockOne', WHERE WHAT IT READS IS OF BULK AT MOST 1048576: true; the input reads as it did. -/
def lockOneUptoRow : OpenClaim := { program := "ytakdagfnknmjjaa", sum := "2c4742874c23e58944705f3232847ffcb81e5f3944e56545128723e39694cc66", func := "gunwale/gunwalelaw16.LockOne", spec := "lockOne", unfollowed := true, recurses := true, apart := false, narrowed := true }
def LockOneUptoSaid : Prop := lockOneUptoRow.holds Try.pinned (OpenSpec.upto lockOneSpec)

/-- 'gunwalelaw16.LockTurns', WHERE WHAT IT READS IS OF BULK AT MOST 1048576: true; the input reads as it did. -/
def lockTurnsUptoRow : OpenClaim := { program := "ytakdagfnknmjjaa", sum := "2c4742874c23e58944705f3232847ffcb81e5f3944e56545128723e39694cc66", func := "gunwale/gunwalelaw16.LockTurns", spec := "lockTurns", unfollowed := true, recurses := true, apart := false, narrowed := true }
def LockTurnsUptoSaid : Prop := lockTurnsUptoRow.holds Try.pinned (OpenSpec.upto lockTurnsSpec)

/-- 'gunwalelaw16.LockDrops', WHERE WHAT IT READS IS OF BULK AT MOST 1048576: true; the input reads as it did. -/
def lockDropsUptoRow : OpenClaim := { program := "ytakdagfnknmjjaa", sum := "2c4742874c23e58944705f3232847ffcb81e5f3944e56545128723e39694cc66", func := "gunwale/gunwalelaw16.LockDrops", spec := "lockDrops", unfollowed := true, recurses := true, apart := false, narrowed := true }
def LockDropsUptoSaid : Prop := lockDropsUptoRow.holds Try.pinned (OpenSpec.upto lockDropsSpec)

/-- 'gunwalelaw16.LockOnly', WHERE WHAT IT READS IS OF BULK AT MOST 1048576: true; the input reads as it did. -/
def lockOnlyUptoRow : OpenClaim := { program := "ytakdagfnknmjjaa", sum := "2c4742874c23e58944705f3232847ffcb81e5f3944e56545128723e39694cc66", func := "gunwale/gunwalelaw16.LockOnly", spec := "lockOnly", unfollowed := true, recurses := true, apart := false, narrowed := true }
def LockOnlyUptoSaid : Prop := lockOnlyUptoRow.holds Try.pinned (OpenSpec.upto lockOnlySpec)

/-- 'gunwalelaw16.LockHas', WHERE WHAT IT READS IS OF BULK AT MOST 1048576: true; the input reads as it did. -/
def lockHasUptoRow : OpenClaim := { program := "ytakdagfnknmjjaa", sum := "2c4742874c23e58944705f3232847ffcb81e5f3944e56545128723e39694cc66", func := "gunwale/gunwalelaw16.LockHas", spec := "lockHas", unfollowed := true, recurses := true, apart := false, narrowed := true }
def LockHasUptoSaid : Prop := lockHasUptoRow.holds Try.pinned (OpenSpec.upto lockHasSpec)

end Rows
end Go.Proofs.Ytakdagfnknmjjaa
