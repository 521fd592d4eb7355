/-
  Proved here: what the arguments of the lock layer's statements are.
-/
import Derived.Test.YtakdagfnknmjjaaAwake
import Derived.Test.YtakdagfnknmjjaaRead
namespace Go.Proofs.Ytakdagfnknmjjaa
set_option maxRecDepth 100000

theorem Try.own : ownKnob Try.prog.godebug = none := by kernel_rfl
theorem Try.laidOut : laidOutB Try.prog = true := by kernel_rfl

def spG (s : Sp) : Prop := (Lit.int .i64 s.1).wf = true ∧ (Lit.int .i64 s.2.1).wf = true ∧ (Lit.int .i64 s.2.2).wf = true
theorem dec_sp (W : World) : Dec Try.prog W 28 spC spG := Dec.struct3 (s0 := 1) (s1 := 1) (s2 := 1) rfl (by kernel_rfl) ⟨rfl, by kernel_rfl⟩ ⟨rfl, by kernel_rfl⟩ ⟨rfl, by kernel_rfl⟩ (Dec.int rfl) (Dec.int rfl) (Dec.int rfl)
theorem dec_sps (W : World) : Dec Try.prog W 22 slE (SlOk W 3 spC spG) := Dec.slice rfl (by kernel_rfl) (by omega) (dec_sp W)
theorem wf_i64 {n : Int} (h : (Lit.int .i64 n).wf = true) : -9223372036854775808 ≤ n ∧ n ≤ 9223372036854775807 := by
  simpa [Lit.wf, IntKind.min, IntKind.max, IntKind.signed, IntKind.bits] using h
theorem wf_u8 {n : Int} (h : (Lit.int .u8 n).wf = true) : 0 ≤ n ∧ n ≤ 255 := by
  simpa [Lit.wf, IntKind.min, IntKind.max, IntKind.signed, IntKind.bits] using h
theorem maxLen_le {n c : Nat} (h : n ≤ c) (hc : c ≤ maxLen) : n ≤ 9223372036854775807 := by unfold maxLen at hc; omega
end Go.Proofs.Ytakdagfnknmjjaa
