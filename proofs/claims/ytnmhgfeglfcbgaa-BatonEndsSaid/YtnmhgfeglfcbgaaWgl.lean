/-
  The numbers that package sync's functions and types bear in this program, and that the program holds them: what the kit's walks through WaitGroup's Add, Done, Wait ask.
-/
import Derived.Test.YtnmhgfeglfcbgaaChecked
import Derived.Conc.WgGenN3
namespace Go.Proofs.Ytnmhgfeglfcbgaa
open Go Go.Conc Go.ConcR Go.RowKit Go.Conc.Lib Go.ConcR.Gen

abbrev wlink : WgLink := { add := 17, done := 19, wait := 22, relMerge := 28, disable := 29, enable := 30, inBubble := 31, associate := 32, fatal := 33, uOr := 34, uAdd := 35, raceRead := 36, uLoad := 37, uStore := 38, disassociate := 39, semrelease := 40, acquire := 43, isAssociated := 44, uCas := 45, raceWrite := 46, semacquire := 47, orU64 := 49, addU64 := 50, loadU64 := 51, storeU64 := 52, casU64 := 57, tWgP := 67, tUP := 69, tAssoc := 70, tWg := 53, tAU := 50, tU64 := 48, tUint := 74, tU32 := 51, tPU32 := 75, tPAU := 87, tPU64 := 89, tNoCopy := 45, tANoCopy := 46, tAlign64 := 47 }

theorem wgLib : WgLib Try.prog wlink :=
  ⟨Try.func17, Try.func19, Try.func22, Try.func28, Try.func29, Try.func30, Try.func31, Try.func32, Try.func33, Try.func34, Try.func35, Try.func36, Try.func37, Try.func38, Try.func39, Try.func40, Try.func43, Try.func44, Try.func45, Try.func46, Try.func47, Try.func49, Try.func50, Try.func51, Try.func52, Try.func57, Try.underlying67, Try.runUnderlying67, Try.sizeOf67, Try.isAgg67, Try.zeroValue67, Try.underlying69, Try.runUnderlying69, Try.sizeOf69, Try.isAgg69, Try.zeroValue69, Try.underlying70, Try.runUnderlying70, Try.sizeOf70, Try.isAgg70, Try.zeroValue70, Try.underlying53, Try.runUnderlying53, Try.sizeOf53, Try.isAgg53, Try.zeroValue53, Try.underlying50, Try.runUnderlying50, Try.sizeOf50, Try.isAgg50, Try.zeroValue50, Try.underlying48, Try.runUnderlying48, Try.sizeOf48, Try.isAgg48, Try.zeroValue48, Try.underlying74, Try.runUnderlying74, Try.sizeOf74, Try.isAgg74, Try.zeroValue74, Try.underlying51, Try.runUnderlying51, Try.sizeOf51, Try.isAgg51, Try.zeroValue51, Try.underlying75, Try.runUnderlying75, Try.sizeOf75, Try.isAgg75, Try.zeroValue75, Try.underlying87, Try.runUnderlying87, Try.sizeOf87, Try.isAgg87, Try.zeroValue87, Try.underlying89, Try.runUnderlying89, Try.sizeOf89, Try.isAgg89, Try.zeroValue89, Try.underlying0, Try.runUnderlying0, Try.sizeOf0, Try.isAgg0, Try.zeroValue0, Try.underlying3, Try.runUnderlying3, Try.sizeOf3, Try.isAgg3, Try.zeroValue3, Try.underlying4, Try.runUnderlying4, Try.sizeOf4, Try.isAgg4, Try.zeroValue4, Try.underlying9, Try.runUnderlying9, Try.sizeOf9, Try.isAgg9, Try.zeroValue9, Try.underlying20, Try.runUnderlying20, Try.sizeOf20, Try.isAgg20, Try.zeroValue20, Try.underlying21, Try.runUnderlying21, Try.sizeOf21, Try.isAgg21, Try.zeroValue21, (by kernel_rfl), (by kernel_rfl)⟩

/-- The payload's cells are players (the kit's walks ask for a type). -/
instance : Payload := ⟨58⟩

end Go.Proofs.Ytnmhgfeglfcbgaa
