/-
  Proved here: the statement WatchLostSaid: from every start that reads as arguments, WatchLost returns true, and the arguments read as they did.
  Conditions: none but the statement's own.
-/
import Derived.Test.YthfphhplghahjaaLost
namespace Go.Proofs.Ythfphhplghahjaa
open Go.ChangeShapes Go.WideShapes Go.ChangeAt Go.RowKit
set_option maxRecDepth 100000

theorem watchLost_lifted (os : Os) (started : os.Started) (H : Type) (enc : TypeId × Value → H) :
    ReturnsInHanded {} Try.checked os 7 .any (Rows.watchLostSpec.pre6 enc Try.prog Try.f7 Rows.watchLostRow.domain false) (Rows.watchLostSpec.post enc Try.prog Try.f7 false true false false) := by
  refine returnsInHanded_of_change (C := Try.checked) Try.own started (by kernel_rfl) Try.func7
    (ChangeSpec.witness6 (enc := enc) (C := Try.checked) false ⟨#[], #[.agg #[.slice none 0 0, .bool false], .slice none 0 0], []⟩ 8 (by kernel_rfl) (by kernel_rfl) (by kernel_rfl) (by kernel_rfl)) ?_
  intro W base args ds gs before hval0 hW hcnd _
  have hval : ∀ (j : Nat) t v, Try.f7.params[j]? = some t → args[j]? = some v → Value.okWide Try.prog W .any base t v := hval0
  have hW' := hW
  obtain ⟨p, q, hA0, hV, rfl, hfz, hnd⟩ := hW
  have hA : DataW.TrodAll enc Try.prog W 0 (fun _ => true) true Try.f7.params.toList args.toList ds p := hA0
  rw [Try.params7] at hA hval
  obtain ⟨v0, v1, d0, d1, p0, p1, rfl, rfl, rfl, h0, h1⟩ := trodAll_two hA
  obtain ⟨⟨s, o⟩, rfl, hz0⟩ := arg_struct (t := 24) rfl (dec_qu W) (hval 0 24 v0 rfl rfl) h0
  obtain ⟨l, rfl, hl⟩ := arg_slice (t := 33) rfl (dec_acts W) (hval 1 33 v1 rfl rfl) h1
  obtain ⟨hs, _⟩ := hz0
  refine Calls.mono ((lost_spec W [snap W] s.A l.A s.c l.c (s.l, o) l.l (maxLen_le hs.le hs.max) (maxLen_le hl.le hl.max) hs.rd hl.rd (fun a ha => actOk (hl.all a ha))).out W (mem_self W)) ?_
  rintro e W' ⟨v, L', rfl, hm, rfl, rfl⟩
  exact ⟨_, rfl, post_true (b := 4) Try.laidOut (by decide +kernel) rfl rfl rfl (fun ds hds => by
    match ds, hds with
    | [a, b], _ => rfl) hW' hm⟩

/-- The statement. -/
theorem watchLost_said : Rows.WatchLostSaid :=
  OpenClaim.holds_of_wide 7 Try.f7 rfl rfl rfl rfl rfl rfl rfl ⟨rfl, rfl, rfl, rfl, rfl⟩ rfl rfl rfl rfl rfl (by kernel_rfl) Try.func7 (by kernel_rfl)
    (of_decide_eq_true (by kernel_rfl)) (by unfold Func.isWrapper; rw [if_neg (by decide +kernel)]; exact ⟨rfl, rfl⟩)
    (fun os started H enc _ => watchLost_lifted os started H enc)
end Go.Proofs.Ythfphhplghahjaa
