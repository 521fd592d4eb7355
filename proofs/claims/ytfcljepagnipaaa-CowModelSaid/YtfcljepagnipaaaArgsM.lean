/-
  Proved here: what the arguments of the statement of the row of changes are.
-/
import Derived.Test.YtfcljepagnipaaaModel
import Derived.Test.YtfcljepagnipaaaArgs
namespace Go.Proofs.Ytfcljepagnipaaa
set_option maxRecDepth 100000

def stG (x : Cg) : Prop := True ∧ (Lit.int .u16 x.2.1).wf = true ∧ (Lit.int .i64 x.2.2).wf = true
theorem dec_st (W : World) : Dec Try.prog W 41 stC stG := Dec.struct3 (s0 := 1) (s1 := 1) (s2 := 1) rfl (by kernel_rfl) ⟨rfl, by kernel_rfl⟩ ⟨rfl, by kernel_rfl⟩ ⟨rfl, by kernel_rfl⟩ (Dec.bool rfl) (Dec.int rfl) (Dec.int rfl)
theorem dec_sts (W : World) : Dec Try.prog W 39 slE (SlOk W 3 stC stG) := Dec.slice rfl (by kernel_rfl) (by omega) (dec_st W)
end Go.Proofs.Ytfcljepagnipaaa
