/-
  Proved here: the statement CowModelSaid: from every start that reads as arguments, CowModel returns true, and the arguments read as they did.
  Conditions: none but the statement's own.
-/
import Derived.Test.YtfcljepagnipaaaArgsM
namespace Go.Proofs.Ytfcljepagnipaaa
open Go.ChangeShapes Go.WideShapes Go.ChangeAt Go.RowKit
set_option maxRecDepth 100000

theorem cowModel_lifted (os : Os) (started : os.Started) (H : Type) (enc : TypeId × Value → H) :
    ReturnsInHanded {} Try.checked os 6 .any (Rows.cowModelSpec.pre6 enc Try.prog Try.f6 Rows.cowModelRow.domain false) (Rows.cowModelSpec.post enc Try.prog Try.f6 false true false false) := by
  refine returnsInHanded_of_change (C := Try.checked) Try.own started (by kernel_rfl) Try.func6
    (ChangeSpec.witness6 (enc := enc) (C := Try.checked) false ⟨#[], #[.slice none 0 0], []⟩ 8 (by kernel_rfl) (by kernel_rfl) (by kernel_rfl) (by kernel_rfl)) ?_
  intro W base args ds gs before hval0 hW hcnd _
  have hval : ∀ (j : Nat) t v, Try.f6.params[j]? = some t → args[j]? = some v → Value.okWide Try.prog W .any base t v := hval0
  have hW' := hW
  obtain ⟨p, q, hA0, hV, rfl, hfz, hnd⟩ := hW
  have hA : DataW.TrodAll enc Try.prog W 0 (fun _ => true) true Try.f6.params.toList args.toList ds p := hA0
  rw [Try.params6] at hA hval
  obtain ⟨v0, d0, rfl, rfl, h0⟩ := trodAll_one hA
  obtain ⟨l, rfl, hl⟩ := arg_slice (t := 39) rfl (dec_sts W) (hval 0 39 v0 rfl rfl) h0
  refine Calls.mono ((model_spec W [snap W] l.A l.c l.l hl.le (maxLen_le hl.le hl.max) (fun s hs => wf_u16 (hl.all s hs).2.1) hl.rd).out W (mem_self W)) ?_
  rintro e W' ⟨v, L', rfl, hm, rfl, rfl⟩
  exact ⟨_, rfl, post_true (b := 4) Try.laidOut (by decide +kernel) rfl rfl rfl (fun ds hds => by
    match ds, hds with
    | [a], _ => rfl) hW' hm⟩

/-- The statement. -/
theorem cowModel_said : Rows.CowModelSaid :=
  OpenClaim.holds_of_wide 6 Try.f6 rfl rfl rfl rfl rfl rfl rfl ⟨rfl, rfl, rfl, rfl, rfl⟩ rfl rfl rfl rfl rfl (by kernel_rfl) Try.func6 (by kernel_rfl)
    (of_decide_eq_true (by kernel_rfl)) (by unfold Func.isWrapper; rw [if_neg (by decide +kernel)]; exact ⟨rfl, rfl⟩)
    (fun os started H enc _ => cowModel_lifted os started H enc)
end Go.Proofs.Ytfcljepagnipaaa
