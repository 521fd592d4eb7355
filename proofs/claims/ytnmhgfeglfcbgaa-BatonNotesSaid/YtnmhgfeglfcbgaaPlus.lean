/-
  Proved here: how the starter's Add(1) and Wait go, from the call to the return.
  Conditions: none beyond each law's own.
-/
import Derived.Test.YtnmhgfeglfcbgaaDeal
import Derived.Test.YtnmhgfeglfcbgaaPass
import Derived.Conc.WgGenN3
namespace Go.Proofs.Ytnmhgfeglfcbgaa
open Go.Conc Go.ConcN Go.RowKit Go.Conc.Lib Go.ConcR.Gen Go.ConcN.Gen
open Go.ConcR (KK wgBlock WgAt stA smA rd wr mk Payload DC0)
variable [Payload] {L : WgLink}

section
variable {P : Program} {Post : Value → World → Prop} {R : Nat → Prop} {N : Nat} {wg : Nat} {γ γ' : Gh} {O : Nat → Prop} {g : Goroutine} {w w0 : World}
  {b₀ : Frame} {a₀ : Act} {ops₀ : Array Oper} {i₀ : Nat} {rest₀ : List Nat} {k₀ : List Item} {cs : List Frame}

omit [Payload] in
theorem Well.says {ty : TypeId} {es : Array Event} {d : Nat} (hs : g.status = .running) (hnoff : γ.wp ≠ .off) (hd : deafBehind γ.deaf es = d) (hes : ∀ e ∈ es, ∀ x, (MemAct.ofEvent e).touch? = some x → inB (· = wg) x.loc ∧ x.kind ≠ .plain) (hnr : ∀ e ∈ es, e.loc ≠ .mark (.release (stA wg)))
    (hF : IW N O ty wg w0 w)
    (H : ∀ w₁, IW N O ty wg w0 w₁ → ∃ g', stepG P true g w₁ = .go g' w₁ es ∧ Well P Post R N ty wg O { γ with deaf := d } g' w₁) : Well P Post R N ty wg O γ g w := by
  subst hd
  exact Well.word hs hnoff hes hnr fun w₁ r l => H w₁ ⟨hF.rl.trans r, Nat.le_trans hF.sz r.size, l⟩
omit [Payload] in
theorem IW.word {ty : TypeId} {w₁ : World} (hF : IW N O ty wg w0 w) (r : Rl N O w w₁) (l : WgLive ty wg w₁) : IW N O ty wg w0 w₁ := ⟨hF.rl.trans r, Nat.le_trans hF.sz r.size, l⟩
omit [Payload] in
theorem IW.put {ty : TypeId} {v : Value} {a : Addr} (hF : IW N O ty wg w0 w) (hO : ¬ O wg) (hN : N ≤ wg) (ha : a.block = wg) (l : WgLive ty wg (w.setCell a v)) : IW N O ty wg w0 (w.setCell a v) := by
  have c := setCell_chg w a v
  refine ⟨hF.rl.trans ⟨c.os, c.tape, c.output, c.size, fun k hk h => c.block k hk ?_⟩, Nat.le_trans hF.sz c.size, l⟩
  intro e
  have e : k = wg := e.trans ha
  subst e
  rcases h with h | h
  · omega
  · exact hO h

set_option maxRecDepth 100000 in
set_option maxHeartbeats 8000000 in
theorem wAdd (H : WgLib P L) (hwp : γ.wp = .opn) (hp : γ.pend = 0) (hd : γ.deaf = 0)
    (hT : ∀ w', IW N O L.tWg wg w w' → Well P Post R N L.tWg wg O { γ with pend := 1 } (G (b₀.at (a₀.put ((ops₀[i₀]?).bind (·.dst)) (.tuple #[])) (.inRegion ops₀ rest₀ :: k₀)) cs) w') :
    Well P Post R N L.tWg wg O γ (G ((base L.add).at ⟨#[.pointer (some ⟨wg, 0, none⟩), .int .i64 1] ++ Array.replicate 115 undef, []⟩ [.code (body_add L)]) (b₀.at a₀ (.inRegion ops₀ (i₀ :: rest₀) :: k₀) :: cs)) w := by
  have _ := (inferInstance : Payload)
  have hnoff : γ.wp ≠ .off := by rw [hwp]; simp
  refine Well.free hnoff fun hO hN hF => ?_
  lib_facts
  simp only [body_add, addFn, Option.getD_some]
  walk_nrm
  refine Well.walk (by first | exact hnoff | simp) (m := 30) ?_
  u_c stepG_seq IW.trans hF
  u_cond true IW.trans hF
  u_c stepG_seq IW.trans hF
  u_c stepG_seq IW.trans hF
  u_reg IW.trans hF
  u_op IW.trans hF
  u_op IW.trans hF
  u_c stepG_region_end IW.trans hF
  u_cond false IW.trans hF
  u_c stepG_skip IW.trans hF
  u_c stepG_seq IW.trans hF
  u_reg IW.trans hF
  refine Goes.stop (fun w₁ h₁ => ?_)
  replace hF := IW.trans hF h₁
  clear h₁
  refine Well.says (d := 1) (es := #[mk .disable]) rfl hnoff (by rw [hd]; rfl) (by simp [mk, MemAct.ofEvent, MemAct.touch?]) (by simp [mk]) hF (fun w₂ h₂ => ⟨_, stepG_mark0 .disable (by simp) rfl rfl (by k_ne) rfl H.f_disable (x_disable_n L) (x_disable_b L) (x_disable_x L) (x_disable_f L), ?_⟩)
  clear hF
  rename IW _ _ _ _ _ _ => hF
  refine Well.walk (by first | exact hnoff | simp) (m := 60) ?_
  walk_nrm
  u_c stepG_region_end IW.trans hF
  u_reg IW.trans hF
  u_defer IW.trans hF
  u_c stepG_region_end IW.trans hF
  u_c stepG_seq IW.trans hF
  u_reg IW.trans hF
  u_op IW.trans hF
  u_c stepG_region_end IW.trans hF
  u_c stepG_seq IW.trans hF
  u_c stepG_seq IW.trans hF
  u_reg IW.trans hF
  u_bub IW.trans hF
  u_c stepG_region_end IW.trans hF
  u_cond false IW.trans hF
  u_c stepG_skip IW.trans hF
  u_c stepG_seq IW.trans hF
  u_reg IW.trans hF
  u_op IW.trans hF
  u_op IW.trans hF
  u_op IW.trans hF
  u_op IW.trans hF
  u_op IW.trans hF
  u_op IW.trans hF
  u_call H.f_uAdd (nm_uAdd L) uAddFn IW.trans hF
  u_c stepG_seq IW.trans hF
  u_reg IW.trans hF
  u_op IW.trans hF
  u_c stepG_region_end IW.trans hF
  u_c stepG_seq IW.trans hF
  u_reg IW.trans hF
  u_op IW.trans hF
  u_op IW.trans hF
  u_op IW.trans hF
  u_op IW.trans hF
  refine Goes.stop (fun w₃ h₃ => ?_)
  replace hF := IW.trans hF h₃
  clear h₃
  refine Well.add rfl hwp hp (fun w₄ v r₄ hv hw => ?_)
  replace hF := IW.word hF r₄ ⟨_, _, hw⟩
  rcases Nat.eq_zero_or_pos v with rfl | hvp
  · replace hw : WgAt L.tWg wg w₄ 0 0 := by simpa using hw
    have z : (((0 : Nat) : Int) + 1) * KK = KK := by simp
    rw [z]
    have e0 : IntKind.u64.wrap (0 + 4294967296) = KK := by decide
    refine ⟨_, (stepG_add_atomic rfl rfl (by k_ne) rfl H.f_addU64 (x_addU64_n L) (x_addU64_b L) (x_addU64_x L) .u64 (x_addU64_f L) rfl rfl hw.cellSt (hw.thaw 0)).trans (by rw [e0]; rfl), ?_⟩
    replace hF := hF.put (v := .int .u64 KK) (a := stA wg) hO hN rfl ⟨_, _, hw.setSt _⟩
    clear hw
    simp only [KK] at hF ⊢
    refine Well.walk (by first | exact hnoff | simp) (m := 110) ?_
    walk_nrm
    u_op IW.trans hF
    u_c stepG_region_end IW.trans hF
    u_c stepG_ret' IW.trans hF
    u_leave1 H.f_uAdd IW.trans hF
    u_op IW.trans hF
    u_c stepG_region_end IW.trans hF
    u_c stepG_seq IW.trans hF
    u_c stepG_seq IW.trans hF
    u_reg IW.trans hF
    u_op IW.trans hF
    u_op IW.trans hF
    u_op IW.trans hF
    u_op IW.trans hF
    u_skip IW.trans hF
    u_skip IW.trans hF
    u_op IW.trans hF
    u_c stepG_region_end IW.trans hF
    u_cond false IW.trans hF
    u_c stepG_skip IW.trans hF
    u_c stepG_seq IW.trans hF
    u_reg IW.trans hF
    u_op IW.trans hF
    u_op IW.trans hF
    u_op IW.trans hF
    u_op IW.trans hF
    u_c stepG_region_end IW.trans hF
    u_c stepG_seq IW.trans hF
    u_reg IW.trans hF
    u_op IW.trans hF
    u_op IW.trans hF
    u_op IW.trans hF
    u_op IW.trans hF
    u_c stepG_region_end IW.trans hF
    u_c stepG_seq IW.trans hF
    u_c stepG_seq IW.trans hF
    u_reg IW.trans hF
    u_op IW.trans hF
    u_op IW.trans hF
    u_op IW.trans hF
    u_op IW.trans hF
    u_op IW.trans hF
    u_op IW.trans hF
    u_op IW.trans hF
    u_op IW.trans hF
    u_op IW.trans hF
    u_op IW.trans hF
    u_c stepG_region_end IW.trans hF
    u_cond true IW.trans hF
    u_reg IW.trans hF
    u_op IW.trans hF
    u_op IW.trans hF
    u_op IW.trans hF
    u_conv H.underlying_tPU32 H.room_tU32 (WgLive.cell1 hF.live).choose_spec IW.trans hF
    refine Goes.stop (fun w₅ h₅ => ?_)
    replace hF := IW.trans hF h₅
    clear h₅
    refine Well.says (d := 1) (es := #[⟨.mark (.read ⟨wg, 1, none⟩), false, true⟩]) rfl (by first | exact hnoff | simp) rfl (by simp [MemAct.ofEvent, MemAct.touch?, inB]) (by simp) hF (fun w₆ h₆ => ⟨_, stepG_markAt .read (by simp) rfl rfl (by k_ne) rfl H.f_raceRead (x_raceRead_n L) (x_raceRead_b L) (x_raceRead_x L) (x_raceRead_f L) (ad := ⟨wg, 1, none⟩) (by simp [Act.eval]), ?_⟩)
    replace hF := h₆
    clear h₆
    refine Well.walk (by first | exact hnoff | simp) (m := 110) ?_
    walk_nrm
    u_c stepG_region_end IW.trans hF
    u_c stepG_seq IW.trans hF
    u_c stepG_seq IW.trans hF
    u_reg IW.trans hF
    u_op IW.trans hF
    u_op IW.trans hF
    u_c stepG_region_end IW.trans hF
    u_cond false IW.trans hF
    u_c stepG_skip IW.trans hF
    u_c stepG_seq IW.trans hF
    u_c stepG_seq IW.trans hF
    u_reg IW.trans hF
    u_op IW.trans hF
    u_op IW.trans hF
    u_op IW.trans hF
    u_skip IW.trans hF
    u_skip IW.trans hF
    u_op IW.trans hF
    u_op IW.trans hF
    u_skip IW.trans hF
    u_skip IW.trans hF
    u_skip IW.trans hF
    u_skip IW.trans hF
    u_op IW.trans hF
    u_c stepG_region_end IW.trans hF
    u_cond false IW.trans hF
    u_c stepG_skip IW.trans hF
    u_c stepG_seq IW.trans hF
    u_c stepG_seq IW.trans hF
    u_reg IW.trans hF
    u_op IW.trans hF
    u_op IW.trans hF
    u_op IW.trans hF
    u_skip IW.trans hF
    u_skip IW.trans hF
    u_op IW.trans hF
    u_c stepG_region_end IW.trans hF
    u_cond true IW.trans hF
    u_c stepG_ret' IW.trans hF
    refine Goes.stop (fun w₇ h₇ => ?_)
    replace hF := IW.trans hF h₇
    clear h₇
    refine Well.says (d := 0) (es := #[mk .enable]) rfl (by first | exact hnoff | simp) rfl (by simp [mk, MemAct.ofEvent, MemAct.touch?]) (by simp [mk]) hF (fun w₈ h₈ => ⟨_, stepG_unwind_entry (v := .tuple #[]) (evs := #[mk .enable]) rfl H.f_enable (x_enable_n L) (x_enable_b L) (x_enable_x L) (x_enable_f L) (by simp [Extern.Race.none_]) (by simp [mk]) (by simp [mk]), ?_⟩)
    replace hF := h₈
    clear h₈
    refine Well.walk (by first | exact hnoff | simp) (m := 3) ?_
    u_leave0 H.f_add IW.trans hF
    refine Goes.stop (fun w₉ h₉ => ?_)
    replace hF := IW.trans hF h₉
    clear h₉
    have hh := hT _ hF
    rw [hd] at hh
    exact hh
  · obtain ⟨V, hV⟩ : ∃ V : Int, V = (v : Int) + 1 := ⟨_, rfl⟩
    obtain ⟨S, hS⟩ : ∃ S : Int, S = V * KK := ⟨_, rfl⟩
    have eS : IntKind.u64.wrap ((v : Int) * KK + 4294967296) = S := by rw [IntKind.wrap_u64, hS, hV]; simp only [KK]; omega
    rw [← hV, ← hS]
    have a1 : S / 4294967296 = V := by rw [hS]; simp only [KK]; omega
    have b1 : bits .and .u64 S 2147483648 = 0 := by rw [hS, hV]; have := st_flag (v + 1) 0 (by omega) (by omega); simpa [KK] using this
    have b2 : bits .and .u64 S 2147483647 = 0 := by rw [hS, hV]; have := st_waiters (v + 1) 0 (by omega) (by omega); simpa [KK] using this
    have c1 : IntKind.i32.wrap V = V := by rw [IntKind.wrap_i32]; omega
    have hV1 : 1 < V := by omega
    have hV2 : V < 2147483648 := by omega
    have q1 : (V == 1) = false := by simp; omega
    have q2 : decide (V = 1) = false := decide_eq_false (by omega)
    have q3 : decide (V < 0) = false := decide_eq_false (by omega)
    have q4 : decide (0 < V) = true := decide_eq_true (by omega)
    have q5 : (V == 0) = false := by simp; omega
    have q6 : decide (V = 0) = false := decide_eq_false (by omega)
    refine ⟨_, (stepG_add_atomic rfl rfl (by k_ne) rfl H.f_addU64 (x_addU64_n L) (x_addU64_b L) (x_addU64_x L) .u64 (x_addU64_f L) rfl rfl hw.cellSt (hw.thaw 0)).trans (by rw [eS]; rfl), ?_⟩
    replace hF := hF.put (v := .int .u64 S) (a := stA wg) hO hN rfl ⟨_, _, hw.setSt _⟩
    clear hw hS hV eS
    refine Well.walk (by first | exact hnoff | simp) (m := 110) ?_
    walk_nrm
    u_op IW.trans hF
    u_c stepG_region_end IW.trans hF
    u_c stepG_ret' IW.trans hF
    u_leave1 H.f_uAdd IW.trans hF
    u_op IW.trans hF
    u_c stepG_region_end IW.trans hF
    u_c stepG_seq IW.trans hF
    u_c stepG_seq IW.trans hF
    u_reg IW.trans hF
    u_op IW.trans hF
    u_op IW.trans hF
    u_op IW.trans hF
    u_op IW.trans hF
    u_skip IW.trans hF
    u_skip IW.trans hF
    u_op IW.trans hF
    u_c stepG_region_end IW.trans hF
    u_cnd false IW.trans hF
    u_c stepG_skip IW.trans hF
    u_c stepG_seq IW.trans hF
    u_reg IW.trans hF
    u_op IW.trans hF
    u_op IW.trans hF
    u_op IW.trans hF
    u_op IW.trans hF
    u_c stepG_region_end IW.trans hF
    u_c stepG_seq IW.trans hF
    u_reg IW.trans hF
    u_op IW.trans hF
    u_op IW.trans hF
    u_op IW.trans hF
    u_op IW.trans hF
    u_c stepG_region_end IW.trans hF
    u_c stepG_seq IW.trans hF
    u_c stepG_seq IW.trans hF
    u_reg IW.trans hF
    u_op IW.trans hF
    u_op IW.trans hF
    u_op IW.trans hF
    u_op IW.trans hF
    u_op IW.trans hF
    u_op IW.trans hF
    u_op IW.trans hF
    u_op IW.trans hF
    u_op IW.trans hF
    u_op IW.trans hF
    u_c stepG_region_end IW.trans hF
    u_cnd false IW.trans hF
    u_c stepG_skip IW.trans hF
    u_c stepG_seq IW.trans hF
    u_c stepG_seq IW.trans hF
    u_reg IW.trans hF
    u_op IW.trans hF
    u_op IW.trans hF
    u_c stepG_region_end IW.trans hF
    u_cnd false IW.trans hF
    u_c stepG_skip IW.trans hF
    u_c stepG_seq IW.trans hF
    u_c stepG_seq IW.trans hF
    u_reg IW.trans hF
    u_op IW.trans hF
    u_op IW.trans hF
    u_op IW.trans hF
    u_skip IW.trans hF
    u_skip IW.trans hF
    u_op IW.trans hF
    u_op IW.trans hF
    u_skip IW.trans hF
    u_skip IW.trans hF
    u_skip IW.trans hF
    u_skip IW.trans hF
    u_op IW.trans hF
    u_c stepG_region_end IW.trans hF
    u_cnd false IW.trans hF
    u_c stepG_skip IW.trans hF
    u_c stepG_seq IW.trans hF
    u_c stepG_seq IW.trans hF
    u_reg IW.trans hF
    u_op IW.trans hF
    u_op IW.trans hF
    u_op IW.trans hF
    u_skip IW.trans hF
    u_skip IW.trans hF
    u_op IW.trans hF
    u_c stepG_region_end IW.trans hF
    u_cnd true IW.trans hF
    u_c stepG_ret' IW.trans hF
    refine Goes.stop (fun w₇ h₇ => ?_)
    replace hF := IW.trans hF h₇
    clear h₇
    refine Well.says (d := 0) (es := #[mk .enable]) rfl (by first | exact hnoff | simp) rfl (by simp [mk, MemAct.ofEvent, MemAct.touch?]) (by simp [mk]) hF (fun w₈ h₈ => ⟨_, stepG_unwind_entry (v := .tuple #[]) (evs := #[mk .enable]) rfl H.f_enable (x_enable_n L) (x_enable_b L) (x_enable_x L) (x_enable_f L) (by simp [Extern.Race.none_]) (by simp [mk]) (by simp [mk]), ?_⟩)
    replace hF := h₈
    clear h₈
    refine Well.walk (by first | exact hnoff | simp) (m := 3) ?_
    u_leave0 H.f_add IW.trans hF
    refine Goes.stop (fun w₉ h₉ => ?_)
    replace hF := IW.trans hF h₉
    clear h₉
    have hh := hT _ hF
    rw [hd] at hh
    exact hh
end
end Go.Proofs.Ytnmhgfeglfcbgaa
