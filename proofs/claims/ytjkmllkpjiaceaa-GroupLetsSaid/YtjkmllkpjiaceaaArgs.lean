/-
  Proved here: what the arguments of the group layer's statements are.
-/
import Derived.Test.YtjkmllkpjiaceaaAwake
import Derived.Test.YtjkmllkpjiaceaaRead
namespace Go.Proofs.Ytjkmllkpjiaceaa
set_option maxRecDepth 100000

theorem Try.own : ownKnob Try.prog.godebug = none := by kernel_rfl
theorem Try.laidOut : laidOutB Try.prog = true := by kernel_rfl

def wtG (w : Wt) : Prop := (Lit.int .i64 w.1).wf = true ∧ (Lit.int .i64 w.2).wf = true
def nmG (n : Int) : Prop := (Lit.int .i64 n).wf = true
theorem dec_wt (W : World) : Dec Try.prog W 39 wtC wtG := Dec.struct2 (s0 := 1) (s1 := 1) rfl (by kernel_rfl) ⟨rfl, by kernel_rfl⟩ ⟨rfl, by kernel_rfl⟩ (Dec.int rfl) (Dec.int rfl)
theorem dec_wts (W : World) : Dec Try.prog W 22 slE (SlOk W 2 wtC wtG) := Dec.slice rfl (by kernel_rfl) (by omega) (dec_wt W)
theorem dec_gr (W : World) : Dec Try.prog W 24 (fun x : Int × Sl Wt => [.int .i64 x.1] ++ slE x.2) (fun x => (Lit.int .i64 x.1).wf = true ∧ SlOk W 2 wtC wtG x.2) := Dec.struct2 (s0 := 1) (s1 := 1) rfl (by kernel_rfl) ⟨rfl, by kernel_rfl⟩ ⟨rfl, by kernel_rfl⟩ (Dec.int rfl) (dec_wts W)
theorem dec_nms (W : World) : Dec Try.prog W 30 slE (SlOk W 1 nmC nmG) := Dec.slice rfl (by kernel_rfl) (by omega) (Dec.int rfl)
theorem wf_i64 {n : Int} (h : (Lit.int .i64 n).wf = true) : -9223372036854775808 ≤ n ∧ n ≤ 9223372036854775807 := by
  simpa [Lit.wf, IntKind.min, IntKind.max, IntKind.signed, IntKind.bits] using h
theorem maxLen_le {n c : Nat} (h : n ≤ c) (hc : c ≤ maxLen) : n ≤ 9223372036854775807 := by unfold maxLen at hc; omega
end Go.Proofs.Ytjkmllkpjiaceaa
