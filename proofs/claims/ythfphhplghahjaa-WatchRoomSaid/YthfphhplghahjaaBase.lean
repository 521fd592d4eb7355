/-
  Proved here: what the shared functions of the watch layer's statements compute, in plain words of lists.
-/
import Derived.Test.YthfphhplghahjaaTypes
namespace Go.Proofs.Ythfphhplghahjaa
set_option maxRecDepth 100000

abbrev Ev := Int × ByteArray
def evC (e : Ev) : List Value := [.int .i64 e.1, .string e.2]
instance : Enc evC 2 := ⟨fun _ => rfl, fun x v hv => by simp [evC] at hv; rcases hv with rfl | rfl <;> rfl⟩

theorem bytes_toList_inj {a b : ByteArray} (h : a.toList = b.toList) : a = b := by
  rw [ByteArray.toList_eq, ByteArray.toList_eq] at h
  obtain ⟨⟨x⟩⟩ := a
  obtain ⟨⟨y⟩⟩ := b
  simp at h
  rw [h]

instance : EqL Try.prog 37 evC where
  guard := fun op X Y x y w => by
    apply run_eqGuard_agg
    kernel_rfl
  eql := fun x y w => by
    obtain ⟨a, s⟩ := x; obtain ⟨b, t⟩ := y
    simp only [evC]
    simp [go_sem]
    by_cases h1 : a = b
    · by_cases h2 : s = t
      · simp [h1, h2]
      · have : s.toList ≠ t.toList := fun h => h2 (bytes_toList_inj h)
        simp [h1, h2, this]
    · simp [h1]
  neq := fun x y w => by
    obtain ⟨a, s⟩ := x; obtain ⟨b, t⟩ := y
    simp only [evC]
    simp [go_sem]
    by_cases h1 : a = b
    · by_cases h2 : s = t
      · simp [h1, h2]
      · have : s.toList ≠ t.toList := fun h => h2 (bytes_toList_inj h)
        simp [h1, h2, this]
    · simp [h1]
end Go.Proofs.Ythfphhplghahjaa
