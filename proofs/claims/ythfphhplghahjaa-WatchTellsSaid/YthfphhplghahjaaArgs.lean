/-
  Proved here: what the arguments of the watch layer's statements are.
-/
import Derived.Test.YthfphhplghahjaaTells
import Derived.Test.YthfphhplghahjaaRead
namespace Go.Proofs.Ythfphhplghahjaa
set_option maxRecDepth 100000

theorem Try.own : ownKnob Try.prog.godebug = none := by kernel_rfl
theorem Try.laidOut : laidOutB Try.prog = true := by kernel_rfl

def evG (e : Ev) : Prop := (Lit.int .i64 e.1).wf = true ∧ e.2.size ≤ maxLen
theorem dec_ev (W : World) : Dec Try.prog W 37 evC evG := Dec.struct2 (s0 := 1) (s1 := 1) rfl (by kernel_rfl) ⟨rfl, by kernel_rfl⟩ ⟨rfl, by kernel_rfl⟩ (Dec.int rfl) (Dec.string rfl)
theorem dec_evs (W : World) : Dec Try.prog W 22 slE (SlOk W 2 evC evG) := Dec.slice rfl (by kernel_rfl) (by omega) (dec_ev W)
theorem dec_qu (W : World) : Dec Try.prog W 24 (fun x : Sl Ev × Bool => slE x.1 ++ [.bool x.2]) (fun x => SlOk W 2 evC evG x.1 ∧ True) := Dec.struct2 (s0 := 1) (s1 := 1) rfl (by kernel_rfl) ⟨rfl, by kernel_rfl⟩ ⟨rfl, by kernel_rfl⟩ (dec_evs W) (Dec.bool rfl)
def actC (a : Sl Ev × Int) : List Value := slE a.1 ++ [.int .i64 a.2]
instance : Enc actC 2 := ⟨fun _ => rfl, fun x v hv => by simp [actC, slE] at hv; rcases hv with rfl | rfl <;> rfl⟩
def actG (W : World) (a : Sl Ev × Int) : Prop := SlOk W 2 evC evG a.1 ∧ (Lit.int .i64 a.2).wf = true
theorem dec_act (W : World) : Dec Try.prog W 35 actC (actG W) := Dec.struct2 (s0 := 1) (s1 := 1) rfl (by kernel_rfl) ⟨rfl, by kernel_rfl⟩ ⟨rfl, by kernel_rfl⟩ (dec_evs W) (Dec.int rfl)
theorem dec_acts (W : World) : Dec Try.prog W 33 slE (SlOk W 2 actC (actG W)) := Dec.slice rfl (by kernel_rfl) (by omega) (dec_act W)
theorem wf_i64 {n : Int} (h : (Lit.int .i64 n).wf = true) : -9223372036854775808 ≤ n ∧ n ≤ 9223372036854775807 := by
  simpa [Lit.wf, IntKind.min, IntKind.max, IntKind.signed, IntKind.bits] using h
theorem wf_u8 {n : Int} (h : (Lit.int .u8 n).wf = true) : 0 ≤ n ∧ n ≤ 255 := by
  simpa [Lit.wf, IntKind.min, IntKind.max, IntKind.signed, IntKind.bits] using h
theorem maxLen_le {n c : Nat} (h : n ≤ c) (hc : c ≤ maxLen) : n ≤ 9223372036854775807 := by unfold maxLen at hc; omega
end Go.Proofs.Ythfphhplghahjaa
