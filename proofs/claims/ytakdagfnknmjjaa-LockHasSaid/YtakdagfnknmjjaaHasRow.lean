/-
  Proved here: the statement LockHasSaid: from every start that reads as arguments, LockHas returns true, and the arguments read as they did.
  Conditions: none but the statement's own.
-/
import Derived.Test.YtakdagfnknmjjaaHas
import Derived.Test.YtakdagfnknmjjaaArgs
namespace Go.Proofs.Ytakdagfnknmjjaa
open Go.ChangeShapes Go.WideShapes Go.ChangeAt Go.RowKit
set_option maxRecDepth 100000

theorem lockHas_lifted (os : Os) (started : os.Started) (H : Type) (enc : TypeId × Value → H) :
    ReturnsInHanded {} Try.checked os 8 .any (Rows.lockHasSpec.pre6 enc Try.prog Try.f8 Rows.lockHasRow.domain false) (Rows.lockHasSpec.post enc Try.prog Try.f8 false true false false) := by
  refine returnsInHanded_of_change (C := Try.checked) Try.own started (by kernel_rfl) Try.func8
    (ChangeSpec.witness6 (enc := enc) (C := Try.checked) false ⟨#[], #[.slice none 0 0, .int .i64 0, .int .i64 0], []⟩ 8 (by kernel_rfl) (by kernel_rfl) (by kernel_rfl) (by kernel_rfl)) ?_
  intro W base args ds gs before hval0 hW hcnd _
  have hval : ∀ (j : Nat) t v, Try.f8.params[j]? = some t → args[j]? = some v → Value.okWide Try.prog W .any base t v := hval0
  have hW' := hW
  obtain ⟨p, q, hA0, hV, rfl, hfz, hnd⟩ := hW
  have hA : DataW.TrodAll enc Try.prog W 0 (fun _ => true) true Try.f8.params.toList args.toList ds p := hA0
  rw [Try.params8] at hA hval
  obtain ⟨v0, v1, v2, d0, d1, d2, p0, p1, p2, rfl, rfl, rfl, h0, h1, h2⟩ := trodAll_three hA
  obtain ⟨l, rfl, hl⟩ := arg_slice (t := 22) rfl (dec_sps W) (hval 0 22 v0 rfl rfl) h0
  obtain ⟨th, rfl, hth⟩ := arg_int (t := 3) (k := .i64) rfl (hval 1 3 v1 rfl rfl) h1
  obtain ⟨id, rfl, hid⟩ := arg_int (t := 3) (k := .i64) rfl (hval 2 3 v2 rfl rfl) h2
  refine Calls.mono ((lockHas_spec W [snap W] l.A l.c l.l th id (maxLen_le hl.le hl.max) hl.rd).out W (mem_self W)) ?_
  rintro e W' ⟨v, L', rfl, hm, rfl, rfl⟩
  exact ⟨_, rfl, post_true (b := 4) Try.laidOut (by decide +kernel) rfl rfl rfl (fun ds hds => by
    match ds, hds with
    | [a, b, c], _ => rfl) hW' hm⟩

/-- The statement. -/
theorem lockHas_said : Rows.LockHasSaid :=
  OpenClaim.holds_of_wide 8 Try.f8 rfl rfl rfl rfl rfl rfl rfl ⟨rfl, rfl, rfl, rfl, rfl⟩ rfl rfl rfl rfl rfl (by kernel_rfl) Try.func8 (by kernel_rfl)
    (of_decide_eq_true (by kernel_rfl)) (by unfold Func.isWrapper; rw [if_neg (by decide +kernel)]; exact ⟨rfl, rfl⟩)
    (fun os started H enc _ => lockHas_lifted os started H enc)
end Go.Proofs.Ytakdagfnknmjjaa
