/-
  Proved here: the statement BatonMoreSaid: from every start that reads as arguments, BatonMore returns true, and the arguments read as they did.
  Conditions: none but the statement's own.
-/
import Derived.Test.YtnmhgfeglfcbgaaMore
import Derived.Test.YtnmhgfeglfcbgaaArgs
namespace Go.Proofs.Ytnmhgfeglfcbgaa
open Go.ChangeShapes Go.WideShapes Go.ChangeAt Go.RowKit
set_option maxRecDepth 100000

theorem batonMore_lifted (os : Os) (started : os.Started) (H : Type) (enc : TypeId × Value → H) :
    ReturnsInLeavingWide {} Try.checked os 6 .any (Rows.batonMoreSpec.pre6 enc Try.prog Try.f6 Rows.batonMoreRow.domain false) (Rows.batonMoreSpec.post enc Try.prog Try.f6 false true false false) := by
  refine returnsInLeavingWide_of_change_sized (C := Try.checked) Try.own started Try.func6
    (ChangeSpec.witness6 (enc := enc) (C := Try.checked) false ⟨#[], #[.slice none 0 0, .slice none 0 0, .slice none 0 0], []⟩ 8 (by kernel_rfl) (by kernel_rfl) (by kernel_rfl) (by kernel_rfl)) ?_
  intro W base args ds gs before hval0 hW hcnd _ _
  have hval : ∀ (j : Nat) t v, Try.f6.params[j]? = some t → args[j]? = some v → Value.okWide Try.prog W .any base t v := hval0
  have hW' := hW
  obtain ⟨p, q, hA0, hV, rfl, hfz, hnd⟩ := hW
  have hA : DataW.TrodAll enc Try.prog W 0 (fun _ => true) true Try.f6.params.toList args.toList ds p := hA0
  rw [Try.params6] at hA hval
  obtain ⟨v0, v1, v2, d0, d1, d2, p0, p1, p2, rfl, rfl, rfl, h0, h1, h2⟩ := trodAll_three hA
  obtain ⟨ps, rfl, hps⟩ := arg_slice (t := 22) rfl (dec_pgs W) (hval 0 22 v0 rfl rfl) h0
  obtain ⟨pk, rfl, hpk⟩ := arg_slice (t := 23) rfl (dec_ins W) (hval 1 23 v1 rfl rfl) h1
  obtain ⟨mo, rfl, hmo⟩ := arg_slice (t := 23) rfl (dec_ins W) (hval 2 23 v2 rfl rfl) h2
  refine ends_of_call (P := Try.prog) (Post := fun v W' => Rows.batonMoreSpec.post enc Try.prog Try.f6 false true false false W #[.slice ps.A ps.l.length ps.c, .slice pk.A pk.l.length pk.c, .slice mo.A mo.l.length mo.c] v W') (more_spec [snap W] ps.A pk.A mo.A ps.c pk.c mo.c ps.l pk.l mo.l (maxLen_le hps.le hps.max) (maxLen_le hpk.le hpk.max) (maxLen_le hmo.le hmo.max) (pgs_in hps) hps.rd hpk.rd hmo.rd) (mem_self W) (by kernel_rfl) ?_
  rintro v L' W' ⟨rfl, rfl⟩ hm
  exact post_true (b := 4) Try.laidOut (by decide +kernel) rfl rfl rfl (fun ds hds => by
    match ds, hds with
    | [a, b, c], _ => rfl) hW' hm

/-- The statement. -/
theorem batonMore_said : Rows.BatonMoreSaid :=
  OpenClaim.holds_of_wide_leaving 6 Try.f6 rfl rfl rfl rfl rfl rfl rfl ⟨rfl, rfl, rfl, rfl, rfl⟩ rfl rfl rfl rfl rfl (by kernel_rfl) Try.func6 (by kernel_rfl)
    (of_decide_eq_true (by kernel_rfl)) (by unfold Func.isWrapper; rw [if_neg (by decide +kernel)]; exact ⟨rfl, rfl⟩)
    (fun os started H enc _ => batonMore_lifted os started H enc)
end Go.Proofs.Ytnmhgfeglfcbgaa
