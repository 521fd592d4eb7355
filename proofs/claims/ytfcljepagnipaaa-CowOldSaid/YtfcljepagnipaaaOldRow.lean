/-
  Proved here: the statement CowOldSaid: from every start that reads as arguments, CowOld returns true, and the arguments read as they did.
  Conditions: none but the statement's own.
-/
import Derived.Test.YtfcljepagnipaaaOld
import Derived.Test.YtfcljepagnipaaaArgs
namespace Go.Proofs.Ytfcljepagnipaaa
open Go.ChangeShapes Go.WideShapes Go.ChangeAt Go.RowKit
set_option maxRecDepth 100000

theorem cowOld_lifted (os : Os) (started : os.Started) (H : Type) (enc : TypeId × Value → H) :
    ReturnsInHanded {} Try.checked os 4 .any (Rows.cowOldSpec.pre6 enc Try.prog Try.f4 Rows.cowOldRow.domain false) (Rows.cowOldSpec.post enc Try.prog Try.f4 false true false false) := by
  refine returnsInHanded_of_change (C := Try.checked) Try.own started (by kernel_rfl) Try.func4
    (ChangeSpec.witness6 (enc := enc) (C := Try.checked) false ⟨#[], #[.slice none 0 0, .int .i64 0, .int .i64 0, .int .i64 0, .int .i64 0, .int .i64 0], []⟩ 8 (by kernel_rfl) (by kernel_rfl) (by kernel_rfl) (by kernel_rfl)) ?_
  intro W base args ds gs before hval0 hW hcnd _
  have hval : ∀ (j : Nat) t v, Try.f4.params[j]? = some t → args[j]? = some v → Value.okWide Try.prog W .any base t v := hval0
  have hW' := hW
  obtain ⟨p, q, hA0, hV, rfl, hfz, hnd⟩ := hW
  have hA : DataW.TrodAll enc Try.prog W 0 (fun _ => true) true Try.f4.params.toList args.toList ds p := hA0
  rw [Try.params4] at hA hval
  obtain ⟨v0, vs0, d0, ds0, p0, q0, hv0, hd0, hp0, h0, hr0⟩ := trodAll_cons hA
  obtain ⟨v1, vs1, d1, ds1, p1, q1, hv1, hd1, hp1, h1, hr1⟩ := trodAll_cons hr0
  obtain ⟨v2, vs2, d2, ds2, p2, q2, hv2, hd2, hp2, h2, hr2⟩ := trodAll_cons hr1
  obtain ⟨v3, vs3, d3, ds3, p3, q3, hv3, hd3, hp3, h3, hr3⟩ := trodAll_cons hr2
  obtain ⟨v4, vs4, d4, ds4, p4, q4, hv4, hd4, hp4, h4, hr4⟩ := trodAll_cons hr3
  obtain ⟨v5, vs5, d5, ds5, p5, q5, hv5, hd5, hp5, h5, hr5⟩ := trodAll_cons hr4
  obtain ⟨hvn, hdn, hpn⟩ := trodAll_nil hr5
  have hargs : args = #[v0, v1, v2, v3, v4, v5] := by apply Array.toList_inj.1; rw [hv0, hv1, hv2, hv3, hv4, hv5, hvn]
  subst hargs
  obtain ⟨a, rfl, ha⟩ := arg_slice (t := 22) rfl (dec_ces W) (hval 0 22 v0 rfl rfl) h0
  obtain ⟨x, rfl, hx⟩ := arg_int (t := 3) (k := .i64) rfl (hval 1 3 v1 rfl rfl) h1
  obtain ⟨old, rfl, hold⟩ := arg_int (t := 3) (k := .i64) rfl (hval 2 3 v2 rfl rfl) h2
  obtain ⟨ky, rfl, hky⟩ := arg_int (t := 3) (k := .i64) rfl (hval 3 3 v3 rfl rfl) h3
  obtain ⟨val, rfl, hval⟩ := arg_int (t := 3) (k := .i64) rfl (hval 4 3 v4 rfl rfl) h4
  obtain ⟨ask, rfl, hask⟩ := arg_int (t := 3) (k := .i64) rfl (hval 5 3 v5 rfl rfl) h5
  refine Calls.mono ((old_spec W [snap W] a.A a.c a.l x old ky val ask (maxLen_le ha.le ha.max) ha.rd).out W (mem_self W)) ?_
  rintro e W' ⟨v, L', rfl, hm, rfl, rfl⟩
  exact ⟨_, rfl, post_true (b := 4) Try.laidOut (by decide +kernel) rfl rfl rfl (fun ds hds => by
    match ds, hds with
    | [a, b, c, d, e, f], _ => rfl) hW' hm⟩

/-- The statement. -/
theorem cowOld_said : Rows.CowOldSaid :=
  OpenClaim.holds_of_wide 4 Try.f4 rfl rfl rfl rfl rfl rfl rfl ⟨rfl, rfl, rfl, rfl, rfl⟩ rfl rfl rfl rfl rfl (by kernel_rfl) Try.func4 (by kernel_rfl)
    (of_decide_eq_true (by kernel_rfl)) (by unfold Func.isWrapper; rw [if_neg (by decide +kernel)]; exact ⟨rfl, rfl⟩)
    (fun os started H enc _ => cowOld_lifted os started H enc)
end Go.Proofs.Ytfcljepagnipaaa
