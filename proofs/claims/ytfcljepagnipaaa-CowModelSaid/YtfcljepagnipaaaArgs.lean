/-
  Proved here: what the arguments of the arena layer's statements are.
-/
import Derived.Test.YtfcljepagnipaaaAwake
import Derived.Test.YtfcljepagnipaaaRead
namespace Go.Proofs.Ytfcljepagnipaaa
set_option maxRecDepth 100000

theorem Try.own : ownKnob Try.prog.godebug = none := by kernel_rfl
theorem Try.laidOut : laidOutB Try.prog = true := by kernel_rfl
theorem Dec.struct4 {P : Program} {W : World} {t : TypeId} {f0 f1 f2 f3 : Field} {s0 s1 s2 s3 : Nat} {α β γ δ : Type} {enc0 : α → List Value} {enc1 : β → List Value} {enc2 : γ → List Value} {enc3 : δ → List Value} {G0 : α → Prop} {G1 : β → Prop} {G2 : γ → Prop} {G3 : δ → Prop}
    (ht : P.underlying t = some (.struct #[f0, f1, f2, f3])) (hC : P.cellsOf t = s0 + s1 + s2 + s3)
    (o0 : f0.offset = 0 ∧ P.cellsOf f0.type = s0) (o1 : f1.offset = s0 ∧ P.cellsOf f1.type = s1) (o2 : f2.offset = s0 + s1 ∧ P.cellsOf f2.type = s2) (o3 : f3.offset = s0 + s1 + s2 ∧ P.cellsOf f3.type = s3)
    (d0 : Dec P W f0.type enc0 G0) (d1 : Dec P W f1.type enc1 G1) (d2 : Dec P W f2.type enc2 G2) (d3 : Dec P W f3.type enc3 G3) :
    Dec P W t (fun x : α × β × γ × δ => enc0 x.1 ++ enc1 x.2.1 ++ enc2 x.2.2.1 ++ enc3 x.2.2.2) (fun x => G0 x.1 ∧ G1 x.2.1 ∧ G2 x.2.2.1 ∧ G3 x.2.2.2) := by
  intro H eH fuel cs y h
  obtain ⟨xs, n, _, _, hlen, hxl, hf⟩ := DataW.trod_struct ht h
  simp at hxl
  obtain ⟨x, hx, gx⟩ := trod_field (hf 0 f0 rfl) (by omega) o0 d0
  obtain ⟨y, hy, gy⟩ := trod_field (hf 1 f1 rfl) (by omega) o1 d1
  obtain ⟨z, hz, gz⟩ := trod_field (hf 2 f2 rfl) (by omega) o2 d2
  obtain ⟨u, hu, gu⟩ := trod_field (hf 3 f3 rfl) (by omega) o3 d3
  refine ⟨(x, y, z, u), ?_, gx, gy, gz, gu⟩
  simp only
  rw [← hx, ← hy, ← hz, ← hu, List.drop_zero, List.take_of_length_le (l := cs.drop (s0 + s1 + s2)) (by simp; omega), ← List.take_add, ← List.take_add, List.take_append_drop]

def ceG (x : Ce) : Prop := (Lit.int .i64 x.1).wf = true ∧ (Lit.int .i64 x.2.1).wf = true ∧ True ∧ (Lit.int .i64 x.2.2.2).wf = true
def nmG (n : Int) : Prop := (Lit.int .i64 n).wf = true
theorem dec_ce (W : World) : Dec Try.prog W 50 ceC ceG := Dec.struct4 (s0 := 1) (s1 := 1) (s2 := 1) (s3 := 1) rfl (by kernel_rfl) ⟨rfl, by kernel_rfl⟩ ⟨rfl, by kernel_rfl⟩ ⟨rfl, by kernel_rfl⟩ ⟨rfl, by kernel_rfl⟩ (Dec.int rfl) (Dec.int rfl) (Dec.bool rfl) (Dec.int rfl)
theorem dec_ces (W : World) : Dec Try.prog W 22 slE (SlOk W 4 ceC ceG) := Dec.slice rfl (by kernel_rfl) (by omega) (dec_ce W)
theorem dec_nms (W : World) : Dec Try.prog W 23 slE (SlOk W 1 nmC nmG) := Dec.slice rfl (by kernel_rfl) (by omega) (Dec.int rfl)
theorem wf_u16 {n : Int} (h : (Lit.int .u16 n).wf = true) : 0 ≤ n ∧ n ≤ 65535 := by
  simpa [Lit.wf, IntKind.min, IntKind.max, IntKind.signed, IntKind.bits] using h
theorem maxLen_le {n c : Nat} (h : n ≤ c) (hc : c ≤ maxLen) : n ≤ 9223372036854775807 := by unfold maxLen at hc; omega
end Go.Proofs.Ytfcljepagnipaaa
