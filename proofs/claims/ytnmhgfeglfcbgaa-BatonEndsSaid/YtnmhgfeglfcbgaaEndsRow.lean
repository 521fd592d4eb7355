/-
  Proved here: the statement BatonEndsSaid: from every start that reads as arguments, BatonEnds returns true, and the arguments read as they did.
  Conditions: none but the statement's own.
-/
import Derived.Test.YtnmhgfeglfcbgaaEnds
import Derived.Test.YtnmhgfeglfcbgaaArgs
namespace Go.Proofs.Ytnmhgfeglfcbgaa
open Go.ChangeShapes Go.WideShapes Go.ChangeAt Go.RowKit
set_option maxRecDepth 100000

theorem batonEnds_lifted (os : Os) (started : os.Started) (H : Type) (enc : TypeId × Value → H) :
    ReturnsInLeavingWide {} Try.checked os 7 .any (Rows.batonEndsSpec.pre6 enc Try.prog Try.f7 Rows.batonEndsRow.domain false) (Rows.batonEndsSpec.post enc Try.prog Try.f7 false true false false) := by
  refine returnsInLeavingWide_of_change_sized (C := Try.checked) Try.own started Try.func7
    (ChangeSpec.witness6 (enc := enc) (C := Try.checked) false ⟨#[], #[.slice none 0 0, .int .i64 0], []⟩ 8 (by kernel_rfl) (by kernel_rfl) (by kernel_rfl) (by kernel_rfl)) ?_
  intro W base args ds gs before hval0 hW hcnd _ _
  have hval : ∀ (j : Nat) t v, Try.f7.params[j]? = some t → args[j]? = some v → Value.okWide Try.prog W .any base t v := hval0
  have hW' := hW
  obtain ⟨p, q, hA0, hV, rfl, hfz, hnd⟩ := hW
  have hA : DataW.TrodAll enc Try.prog W 0 (fun _ => true) true Try.f7.params.toList args.toList ds p := hA0
  rw [Try.params7] at hA hval
  obtain ⟨v0, v1, d0, d1, p0, p1, rfl, rfl, rfl, h0, h1⟩ := trodAll_two hA
  obtain ⟨ps, rfl, hps⟩ := arg_slice (t := 22) rfl (dec_pgs W) (hval 0 22 v0 rfl rfl) h0
  obtain ⟨pk, rfl, hpk⟩ := arg_int (t := 3) (k := .i64) rfl (hval 1 3 v1 rfl rfl) h1
  refine ends_of_call (P := Try.prog) (Post := fun v W' => Rows.batonEndsSpec.post enc Try.prog Try.f7 false true false false W #[.slice ps.A ps.l.length ps.c, .int .i64 pk] v W') (ends_spec [snap W] ps.A ps.c ps.l pk (maxLen_le hps.le hps.max) (pgs_in hps) hps.rd) (mem_self W) (by kernel_rfl) ?_
  rintro v L' W' ⟨rfl, rfl⟩ hm
  exact post_true (b := 4) Try.laidOut (by decide +kernel) rfl rfl rfl (fun ds hds => by
    match ds, hds with
    | [a, b], _ => rfl) hW' hm

/-- The statement. -/
theorem batonEnds_said : Rows.BatonEndsSaid :=
  OpenClaim.holds_of_wide_leaving 7 Try.f7 rfl rfl rfl rfl rfl rfl rfl ⟨rfl, rfl, rfl, rfl, rfl⟩ rfl rfl rfl rfl rfl (by kernel_rfl) Try.func7 (by kernel_rfl)
    (of_decide_eq_true (by kernel_rfl)) (by unfold Func.isWrapper; rw [if_neg (by decide +kernel)]; exact ⟨rfl, rfl⟩)
    (fun os started H enc _ => batonEnds_lifted os started H enc)
end Go.Proofs.Ytnmhgfeglfcbgaa
