/-
  Proved here: the statement GroupOrderSaid: from every start that reads as arguments, GroupOrder returns true, and the arguments read as they did.
  Conditions: none but the statement's own.
-/
import Derived.Test.YtjkmllkpjiaceaaOrder
namespace Go.Proofs.Ytjkmllkpjiaceaa
open Go.ChangeShapes Go.WideShapes Go.ChangeAt Go.RowKit
set_option maxRecDepth 100000

theorem groupOrder_lifted (os : Os) (started : os.Started) (H : Type) (enc : TypeId × Value → H) :
    ReturnsInHanded {} Try.checked os 7 .any (Rows.groupOrderSpec.pre6 enc Try.prog Try.f7 Rows.groupOrderRow.domain false) (Rows.groupOrderSpec.post enc Try.prog Try.f7 false true false false) := by
  refine returnsInHanded_of_change (C := Try.checked) Try.own started (by kernel_rfl) Try.func7
    (ChangeSpec.witness6 (enc := enc) (C := Try.checked) false ⟨#[], #[.agg #[.int .i64 0, .slice none 0 0], .int .i64 0, .int .i64 0, .int .i64 0], []⟩ 8 (by kernel_rfl) (by kernel_rfl) (by kernel_rfl) (by kernel_rfl)) ?_
  intro W base args ds gs before hval0 hW hcnd _
  have hval : ∀ (j : Nat) t v, Try.f7.params[j]? = some t → args[j]? = some v → Value.okWide Try.prog W .any base t v := hval0
  have hW' := hW
  obtain ⟨p, q, hA0, hV, rfl, hfz, hnd⟩ := hW
  have hA : DataW.TrodAll enc Try.prog W 0 (fun _ => true) true Try.f7.params.toList args.toList ds p := hA0
  rw [Try.params7] at hA hval
  obtain ⟨v0, vs0, d0, ds0, p0, q0, hv0, hd0, hp0, h0, hr0⟩ := trodAll_cons hA
  obtain ⟨v1, vs1, d1, ds1, p1, q1, hv1, hd1, hp1, h1, hr1⟩ := trodAll_cons hr0
  obtain ⟨v2, vs2, d2, ds2, p2, q2, hv2, hd2, hp2, h2, hr2⟩ := trodAll_cons hr1
  obtain ⟨v3, vs3, d3, ds3, p3, q3, hv3, hd3, hp3, h3, hr3⟩ := trodAll_cons hr2
  obtain ⟨hvn, hdn, hpn⟩ := trodAll_nil hr3
  have hargs : args = #[v0, v1, v2, v3] := by apply Array.toList_inj.1; rw [hv0, hv1, hv2, hv3, hvn]
  subst hargs
  obtain ⟨⟨x, s⟩, rfl, hz0⟩ := arg_struct (t := 24) rfl (dec_gr W) (hval 0 24 v0 rfl rfl) h0
  obtain ⟨th, rfl, hth⟩ := arg_int (t := 3) (k := .i64) rfl (hval 1 3 v1 rfl rfl) h1
  obtain ⟨a, rfl, ha⟩ := arg_int (t := 3) (k := .i64) rfl (hval 2 3 v2 rfl rfl) h2
  obtain ⟨b, rfl, hb⟩ := arg_int (t := 3) (k := .i64) rfl (hval 3 3 v3 rfl rfl) h3
  obtain ⟨_, hs⟩ := hz0
  refine Calls.mono ((order_spec W [snap W] s.A s.c x th a b s.l (maxLen_le hs.le hs.max) hs.rd).out W (mem_self W)) ?_
  rintro e W' ⟨v, L', rfl, hm, rfl, rfl⟩
  exact ⟨_, rfl, post_true (b := 4) Try.laidOut (by decide +kernel) rfl rfl rfl (fun ds hds => by
    match ds, hds with
    | [a, b, c, d], _ => rfl) hW' hm⟩

/-- The statement. -/
theorem groupOrder_said : Rows.GroupOrderSaid :=
  OpenClaim.holds_of_wide 7 Try.f7 rfl rfl rfl rfl rfl rfl rfl ⟨rfl, rfl, rfl, rfl, rfl⟩ rfl rfl rfl rfl rfl (by kernel_rfl) Try.func7 (by kernel_rfl)
    (of_decide_eq_true (by kernel_rfl)) (by unfold Func.isWrapper; rw [if_neg (by decide +kernel)]; exact ⟨rfl, rfl⟩)
    (fun os started H enc _ => groupOrder_lifted os started H enc)
end Go.Proofs.Ytjkmllkpjiaceaa
