/-
  Proved here: the statement LockDropsSaid: from every start that reads as arguments, LockDrops returns true, and the arguments read as they did.
  Conditions: none but the statement's own.
-/
import Derived.Test.YtakdagfnknmjjaaDrops
import Derived.Test.YtakdagfnknmjjaaArgs
namespace Go.Proofs.Ytakdagfnknmjjaa
open Go.ChangeShapes Go.WideShapes Go.ChangeAt Go.RowKit
set_option maxRecDepth 100000

theorem lockDrops_lifted (os : Os) (started : os.Started) (H : Type) (enc : TypeId × Value → H) :
    ReturnsInHanded {} Try.checked os 6 .any (Rows.lockDropsSpec.pre6 enc Try.prog Try.f6 Rows.lockDropsRow.domain false) (Rows.lockDropsSpec.post enc Try.prog Try.f6 false true false false) := by
  refine returnsInHanded_of_change (C := Try.checked) Try.own started (by kernel_rfl) Try.func6
    (ChangeSpec.witness6 (enc := enc) (C := Try.checked) false ⟨#[], #[.slice none 0 0, .int .i64 0], []⟩ 8 (by kernel_rfl) (by kernel_rfl) (by kernel_rfl) (by kernel_rfl)) ?_
  intro W base args ds gs before hval0 hW hcnd _
  have hval : ∀ (j : Nat) t v, Try.f6.params[j]? = some t → args[j]? = some v → Value.okWide Try.prog W .any base t v := hval0
  have hW' := hW
  obtain ⟨p, q, hA0, hV, rfl, hfz, hnd⟩ := hW
  have hA : DataW.TrodAll enc Try.prog W 0 (fun _ => true) true Try.f6.params.toList args.toList ds p := hA0
  rw [Try.params6] at hA hval
  obtain ⟨v0, v1, d0, d1, p0, p1, rfl, rfl, rfl, h0, h1⟩ := trodAll_two hA
  obtain ⟨l, rfl, hl⟩ := arg_slice (t := 22) rfl (dec_sps W) (hval 0 22 v0 rfl rfl) h0
  obtain ⟨th, rfl, hth⟩ := arg_int (t := 3) (k := .i64) rfl (hval 1 3 v1 rfl rfl) h1
  refine Calls.mono ((drops_spec W [snap W] l.A l.c l.l th (maxLen_le hl.le hl.max) hl.rd).out W (mem_self W)) ?_
  rintro e W' ⟨v, L', rfl, hm, rfl, rfl⟩
  exact ⟨_, rfl, post_true (b := 4) Try.laidOut (by decide +kernel) rfl rfl rfl (fun ds hds => by
    match ds, hds with
    | [a, b], _ => rfl) hW' hm⟩

/-- The statement. -/
theorem lockDrops_said : Rows.LockDropsSaid :=
  OpenClaim.holds_of_wide 6 Try.f6 rfl rfl rfl rfl rfl rfl rfl ⟨rfl, rfl, rfl, rfl, rfl⟩ rfl rfl rfl rfl rfl (by kernel_rfl) Try.func6 (by kernel_rfl)
    (of_decide_eq_true (by kernel_rfl)) (by unfold Func.isWrapper; rw [if_neg (by decide +kernel)]; exact ⟨rfl, rfl⟩)
    (fun os started H enc _ => lockDrops_lifted os started H enc)
end Go.Proofs.Ytakdagfnknmjjaa
