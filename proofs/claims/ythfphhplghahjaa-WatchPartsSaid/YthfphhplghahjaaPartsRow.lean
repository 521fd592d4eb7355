/-
  Proved here: the statement WatchPartsSaid: from every start that reads as arguments, WatchParts returns true, and the arguments read as they did.
  Conditions: none but the statement's own.
-/
import Derived.Test.YthfphhplghahjaaParts
namespace Go.Proofs.Ythfphhplghahjaa
open Go.ChangeShapes Go.WideShapes Go.ChangeAt Go.RowKit
set_option maxRecDepth 100000

theorem watchParts_lifted (os : Os) (started : os.Started) (H : Type) (enc : TypeId × Value → H) :
    ReturnsInHanded {} Try.checked os 6 .any (Rows.watchPartsSpec.pre6 enc Try.prog Try.f6 Rows.watchPartsRow.domain false) (Rows.watchPartsSpec.post enc Try.prog Try.f6 false true false false) := by
  refine returnsInHanded_of_change (C := Try.checked) Try.own started (by kernel_rfl) Try.func6
    (ChangeSpec.witness6 (enc := enc) (C := Try.checked) false ⟨#[], #[.agg #[.slice none 0 0, .bool false], .slice none 0 0, .slice none 0 0, .int .u8 0, .int .u8 0], []⟩ 8 (by kernel_rfl) (by kernel_rfl) (by kernel_rfl) (by kernel_rfl)) ?_
  intro W base args ds gs before hval0 hW hcnd _
  have hval : ∀ (j : Nat) t v, Try.f6.params[j]? = some t → args[j]? = some v → Value.okWide Try.prog W .any base t v := hval0
  have hW' := hW
  obtain ⟨p, q, hA0, hV, rfl, hfz, hnd⟩ := hW
  have hA : DataW.TrodAll enc Try.prog W 0 (fun _ => true) true Try.f6.params.toList args.toList ds p := hA0
  rw [Try.params6] at hA hval
  obtain ⟨v0, vs0, d0, ds0, p0, q0, hv0, hd0, hp0, h0, hr0⟩ := trodAll_cons hA
  obtain ⟨v1, vs1, d1, ds1, p1, q1, hv1, hd1, hp1, h1, hr1⟩ := trodAll_cons hr0
  obtain ⟨v2, vs2, d2, ds2, p2, q2, hv2, hd2, hp2, h2, hr2⟩ := trodAll_cons hr1
  obtain ⟨v3, vs3, d3, ds3, p3, q3, hv3, hd3, hp3, h3, hr3⟩ := trodAll_cons hr2
  obtain ⟨v4, vs4, d4, ds4, p4, q4, hv4, hd4, hp4, h4, hr4⟩ := trodAll_cons hr3
  obtain ⟨hvn, hdn, hpn⟩ := trodAll_nil hr4
  have hargs : args = #[v0, v1, v2, v3, v4] := by apply Array.toList_inj.1; rw [hv0, hv1, hv2, hv3, hv4, hvn]
  subst hargs
  obtain ⟨⟨s, o⟩, rfl, hz0⟩ := arg_struct (t := 24) rfl (dec_qu W) (hval 0 24 v0 rfl rfl) h0
  obtain ⟨l, rfl, hl⟩ := arg_slice (t := 22) rfl (dec_evs W) (hval 1 22 v1 rfl rfl) h1
  obtain ⟨k, rfl, hk⟩ := arg_slice (t := 22) rfl (dec_evs W) (hval 2 22 v2 rfl rfl) h2
  obtain ⟨n, rfl, hn⟩ := arg_int (t := 5) (k := .u8) rfl (hval 3 5 v3 rfl rfl) h3
  obtain ⟨m, rfl, hm⟩ := arg_int (t := 5) (k := .u8) rfl (hval 4 5 v4 rfl rfl) h4
  obtain ⟨hs, _⟩ := hz0
  refine Calls.mono ((parts_spec W [snap W] s.A l.A k.A s.c l.c k.c (s.l, o) l.l k.l n m (maxLen_le hs.le hs.max) (maxLen_le hl.le hl.max) (maxLen_le hk.le hk.max) hs.le hl.le hk.le (wf_u8 hn) (wf_u8 hm) hs.rd hl.rd hk.rd).out W (mem_self W)) ?_
  rintro e W' ⟨v, L', rfl, hm, rfl, rfl⟩
  exact ⟨_, rfl, post_true (b := 4) Try.laidOut (by decide +kernel) rfl rfl rfl (fun ds hds => by
    match ds, hds with
    | [a, b, c, d, e], _ => rfl) hW' hm⟩

/-- The statement. -/
theorem watchParts_said : Rows.WatchPartsSaid :=
  OpenClaim.holds_of_wide 6 Try.f6 rfl rfl rfl rfl rfl rfl rfl ⟨rfl, rfl, rfl, rfl, rfl⟩ rfl rfl rfl rfl rfl (by kernel_rfl) Try.func6 (by kernel_rfl)
    (of_decide_eq_true (by kernel_rfl)) (by unfold Func.isWrapper; rw [if_neg (by decide +kernel)]; exact ⟨rfl, rfl⟩)
    (fun os started H enc _ => watchParts_lifted os started H enc)
end Go.Proofs.Ythfphhplghahjaa
