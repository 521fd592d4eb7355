/-
  Proved here: the statement BatonTellsSaid: from every start that reads as arguments, BatonTells returns true, and the arguments read as they did.
  Conditions: none but the statement's own.
-/
import Derived.Test.YtnmhgfeglfcbgaaTells
import Derived.Test.YtnmhgfeglfcbgaaArgs
namespace Go.Proofs.Ytnmhgfeglfcbgaa
open Go.ChangeShapes Go.WideShapes Go.ChangeAt Go.RowKit
set_option maxRecDepth 100000

theorem batonTells_lifted (os : Os) (started : os.Started) (H : Type) (enc : TypeId × Value → H) :
    ReturnsInLeavingWide {} Try.checked os 3 .any (Rows.batonTellsSpec.pre6 enc Try.prog Try.f3 Rows.batonTellsRow.domain false) (Rows.batonTellsSpec.post enc Try.prog Try.f3 false true false false) := by
  refine returnsInLeavingWide_of_change_sized (C := Try.checked) Try.own started Try.func3
    (ChangeSpec.witness6 (enc := enc) (C := Try.checked) false ⟨#[], #[.slice none 0 0, .slice none 0 0, .slice none 0 0, .slice none 0 0], []⟩ 8 (by kernel_rfl) (by kernel_rfl) (by kernel_rfl) (by kernel_rfl)) ?_
  intro W base args ds gs before hval0 hW hcnd _ _
  have hval : ∀ (j : Nat) t v, Try.f3.params[j]? = some t → args[j]? = some v → Value.okWide Try.prog W .any base t v := hval0
  have hW' := hW
  obtain ⟨p, q, hA0, hV, rfl, hfz, hnd⟩ := hW
  have hA : DataW.TrodAll enc Try.prog W 0 (fun _ => true) true Try.f3.params.toList args.toList ds p := hA0
  rw [Try.params3] at hA hval
  obtain ⟨v0, vs0, d0, ds0, p0, q0, hv0, hd0, hp0, h0, hr0⟩ := trodAll_cons hA
  obtain ⟨v1, vs1, d1, ds1, p1, q1, hv1, hd1, hp1, h1, hr1⟩ := trodAll_cons hr0
  obtain ⟨v2, vs2, d2, ds2, p2, q2, hv2, hd2, hp2, h2, hr2⟩ := trodAll_cons hr1
  obtain ⟨v3, vs3, d3, ds3, p3, q3, hv3, hd3, hp3, h3, hr3⟩ := trodAll_cons hr2
  obtain ⟨hvn, hdn, hpn⟩ := trodAll_nil hr3
  have hargs : args = #[v0, v1, v2, v3] := by apply Array.toList_inj.1; rw [hv0, hv1, hv2, hv3, hvn]
  subst hargs
  obtain ⟨ps, rfl, hps⟩ := arg_slice (t := 22) rfl (dec_pgs W) (hval 0 22 v0 rfl rfl) h0
  obtain ⟨pk, rfl, hpk⟩ := arg_slice (t := 23) rfl (dec_ins W) (hval 1 23 v1 rfl rfl) h1
  obtain ⟨dn, rfl, hdn⟩ := arg_slice (t := 23) rfl (dec_ins W) (hval 2 23 v2 rfl rfl) h2
  obtain ⟨hd, rfl, hhd⟩ := arg_slice (t := 24) rfl (dec_hos W) (hval 3 24 v3 rfl rfl) h3
  refine ends_of_call (P := Try.prog) (Post := fun v W' => Rows.batonTellsSpec.post enc Try.prog Try.f3 false true false false W #[.slice ps.A ps.l.length ps.c, .slice pk.A pk.l.length pk.c, .slice dn.A dn.l.length dn.c, .slice hd.A hd.l.length hd.c] v W') (tells_spec [snap W] ps.A pk.A dn.A hd.A ps.c pk.c dn.c hd.c ps.l pk.l dn.l hd.l (maxLen_le hps.le hps.max) (maxLen_le hpk.le hpk.max) (maxLen_le hdn.le hdn.max) (maxLen_le hhd.le hhd.max) (pgs_in hps) hps.rd hpk.rd hdn.rd hhd.rd) (mem_self W) (by kernel_rfl) ?_
  rintro v L' W' ⟨rfl, rfl⟩ hm
  exact post_true (b := 4) Try.laidOut (by decide +kernel) rfl rfl rfl (fun ds hds => by
    match ds, hds with
    | [a, b, c, d], _ => rfl) hW' hm

/-- The statement. -/
theorem batonTells_said : Rows.BatonTellsSaid :=
  OpenClaim.holds_of_wide_leaving 3 Try.f3 rfl rfl rfl rfl rfl rfl rfl ⟨rfl, rfl, rfl, rfl, rfl⟩ rfl rfl rfl rfl rfl (by kernel_rfl) Try.func3 (by kernel_rfl)
    (of_decide_eq_true (by kernel_rfl)) (by unfold Func.isWrapper; rw [if_neg (by decide +kernel)]; exact ⟨rfl, rfl⟩)
    (fun os started H enc _ => batonTells_lifted os started H enc)
end Go.Proofs.Ytnmhgfeglfcbgaa
