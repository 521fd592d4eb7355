/-
  Proved here: the statement GroupLetsSaid: from every start that reads as arguments, GroupLets returns true, and the arguments read as they did.
  Conditions: none but the statement's own.
-/
import Derived.Test.YtjkmllkpjiaceaaLets
namespace Go.Proofs.Ytjkmllkpjiaceaa
open Go.ChangeShapes Go.WideShapes Go.ChangeAt Go.RowKit
set_option maxRecDepth 100000

theorem groupLets_lifted (os : Os) (started : os.Started) (H : Type) (enc : TypeId × Value → H) :
    ReturnsInHanded {} Try.checked os 5 .any (Rows.groupLetsSpec.pre6 enc Try.prog Try.f5 Rows.groupLetsRow.domain false) (Rows.groupLetsSpec.post enc Try.prog Try.f5 false true false false) := by
  refine returnsInHanded_of_change (C := Try.checked) Try.own started (by kernel_rfl) Try.func5
    (ChangeSpec.witness6 (enc := enc) (C := Try.checked) false ⟨#[], #[.agg #[.int .i64 0, .slice none 0 0], .int .i64 0], []⟩ 8 (by kernel_rfl) (by kernel_rfl) (by kernel_rfl) (by kernel_rfl)) ?_
  intro W base args ds gs before hval0 hW hcnd _
  have hval : ∀ (j : Nat) t v, Try.f5.params[j]? = some t → args[j]? = some v → Value.okWide Try.prog W .any base t v := hval0
  have hW' := hW
  obtain ⟨p, q, hA0, hV, rfl, hfz, hnd⟩ := hW
  have hA : DataW.TrodAll enc Try.prog W 0 (fun _ => true) true Try.f5.params.toList args.toList ds p := hA0
  rw [Try.params5] at hA hval
  obtain ⟨v0, v1, d0, d1, p0, p1, rfl, rfl, rfl, h0, h1⟩ := trodAll_two hA
  obtain ⟨⟨x, s⟩, rfl, hz0⟩ := arg_struct (t := 24) rfl (dec_gr W) (hval 0 24 v0 rfl rfl) h0
  obtain ⟨kept, rfl, hkept⟩ := arg_int (t := 3) (k := .i64) rfl (hval 1 3 v1 rfl rfl) h1
  obtain ⟨_, hs⟩ := hz0
  refine Calls.mono ((lets_spec W [snap W] s.A s.c x kept s.l (maxLen_le hs.le hs.max) hs.rd).out W (mem_self W)) ?_
  rintro e W' ⟨v, L', rfl, hm, rfl, rfl⟩
  exact ⟨_, rfl, post_true (b := 4) Try.laidOut (by decide +kernel) rfl rfl rfl (fun ds hds => by
    match ds, hds with
    | [a, b], _ => rfl) hW' hm⟩

/-- The statement. -/
theorem groupLets_said : Rows.GroupLetsSaid :=
  OpenClaim.holds_of_wide 5 Try.f5 rfl rfl rfl rfl rfl rfl rfl ⟨rfl, rfl, rfl, rfl, rfl⟩ rfl rfl rfl rfl rfl (by kernel_rfl) Try.func5 (by kernel_rfl)
    (of_decide_eq_true (by kernel_rfl)) (by unfold Func.isWrapper; rw [if_neg (by decide +kernel)]; exact ⟨rfl, rfl⟩)
    (fun os started H enc _ => groupLets_lifted os started H enc)
end Go.Proofs.Ytjkmllkpjiaceaa
