/-
  Proved here: how the starter's Wait goes, from the call to the return.
  Conditions: none beyond each law's own.
-/
import Derived.Test.YtnmhgfeglfcbgaaPlus
namespace Go.Proofs.Ytnmhgfeglfcbgaa
open Go.Conc Go.ConcN Go.RowKit Go.Conc.Lib Go.ConcR.Gen Go.ConcN.Gen
open Go.ConcR (KK wgBlock WgAt stA smA rd wr mk Payload DC0)
variable [Payload] {L : WgLink}

section
variable {P : Program} {Post : Value → World → Prop} {R : Nat → Prop} {N : Nat} {wg : Nat} {γ γ' : Gh} {O : Nat → Prop} {g : Goroutine} {w w0 : World}
  {b₀ : Frame} {a₀ : Act} {ops₀ : Array Oper} {i₀ : Nat} {rest₀ : List Nat} {k₀ : List Item} {cs : List Frame}

omit [Payload] in
theorem Well.seen {ty : TypeId} (hwp : γ.wp = .opn) (hp : γ.pend = 0) (h : ∀ b, Well P Post R N ty wg O { γ with wp := .seen b } g w) : Well P Post R N ty wg O γ g w := by
  intro Sh gs t sl D hx hc
  have hmode := hc.mode
  unfold Mode at hmode
  rw [hwp] at hmode
  obtain ⟨ho, hat, _⟩ := hmode
  rw [hp, Nat.add_zero] at hat
  have ha : γ.acq = true → False := fun ha => by have := (hc.acq ha).1; rw [hwp] at this; cases this
  have hnoff : γ.wp ≠ .off := by rw [hwp]; simp
  exact h (cntTo γ.n D) Sh gs t sl D hx ⟨hc.size, hc.base1, hc.baseN, (fun e => by simp at e), hc.small, hc.sz, hc.zero, hc.lv, hc.wk, hc.fit, hc.chb, hc.chc, hc.chN, hc.chO, hc.chD, hc.own, hc.ap, hc.ti, fun _ => hc.shw hnoff, hc.deaf0, fun _ => hc.norel hnoff, hc.rel, fun e => (ha e).elim, ⟨ho, hat, Nat.le_refl _⟩⟩

/-- The head of Wait's loop. -/
noncomputable def headW (L : WgLink) (T : Array Value) (c : Frame) (cs : List Frame) : Goroutine := G ((base L.wait).at ⟨T, []⟩ [.code (L7 L), .inLoop (L7 L), .inBlock 0]) (c :: cs)

set_option maxRecDepth 100000 in
set_option maxHeartbeats 8000000 in
theorem wRound (H : WgLib P L) {b : Nat} {T : Array Value} (hT84 : T.size = 84) (t0 : T[0]? = some (.pointer (some ⟨wg, 0, none⟩))) (hwp : γ.wp = .seen b) (hd : γ.deaf = 1) (hgone : ∀ k, γ.base ≤ k → k < γ.n → γ.m k = .gone)
    (hT : ∀ w', IW N O L.tWg wg w w' → Well P Post R N L.tWg wg O { γ with wp := .fin, acq := true, deaf := 0 } (G (b₀.at (a₀.put ((ops₀[i₀]?).bind (·.dst)) (.tuple #[])) (.inRegion ops₀ rest₀ :: k₀)) cs) w')
    (hB : ∀ b' T' w', b' < b → T'.size = 84 → T'[0]? = some (.pointer (some ⟨wg, 0, none⟩)) → IW N O L.tWg wg w w' → Well P Post R N L.tWg wg O { γ with wp := .seen b' } (headW L T' (b₀.at a₀ (.inRegion ops₀ (i₀ :: rest₀) :: k₀)) cs) w') :
    Well P Post R N L.tWg wg O γ (headW L T (b₀.at a₀ (.inRegion ops₀ (i₀ :: rest₀) :: k₀)) cs) w := by
  have _ := (inferInstance : Payload)
  have hnoff : γ.wp ≠ .off := by rw [hwp]; simp
  refine Well.free hnoff fun hO hN hF => ?_
  lib_facts
  obtain ⟨v0, v1, v2, v3, v4, v5, v6, v7, v8, v9, v10, v11, v12, v13, v14, v15, v16, v17, v18, v19, v20, v21, v22, v23, v24, v25, v26, v27, v28, v29, v30, v31, v32, v33, v34, v35, v36, v37, v38, v39, v40, v41, v42, v43, v44, v45, v46, v47, v48, v49, v50, v51, v52, v53, v54, v55, v56, v57, v58, v59, v60, v61, v62, v63, v64, v65, v66, v67, v68, v69, v70, v71, v72, v73, v74, v75, v76, v77, v78, v79, v80, v81, v82, v83, rfl⟩ := array84 T hT84
  simp only [List.getElem?_toArray, List.getElem?_cons_zero, Option.some.injEq] at t0
  subst t0
  simp only [headW, L7, body_wait, waitFn, Option.getD_some]
  refine Well.walk (by first | exact hnoff | simp) (m := 30) ?_
  u_c stepG_block IW.trans hF
  u_c stepG_seq IW.trans hF
  u_reg IW.trans hF
  u_op IW.trans hF
  u_op IW.trans hF
  u_op IW.trans hF
  u_call H.f_uLoad (nm_uLoad L) uLoadFn IW.trans hF
  u_c stepG_seq IW.trans hF
  u_reg IW.trans hF
  u_op IW.trans hF
  u_c stepG_region_end IW.trans hF
  u_c stepG_seq IW.trans hF
  u_reg IW.trans hF
  u_op IW.trans hF
  u_op IW.trans hF
  u_op IW.trans hF
  refine Goes.stop (fun w₁ h₁ => ?_)
  replace hF := IW.trans hF h₁
  clear h₁
  refine Well.again rfl hwp (fun w₂ v r₂ hv hvb hw => ?_)
  replace hF := IW.word hF r₂ ⟨_, _, hw⟩
  rcases Nat.eq_zero_or_pos v with rfl | hvp
  · replace hw : WgAt L.tWg wg w₂ 0 0 := by simpa using hw
    refine ⟨_, stepG_load_atomic (v := 0) rfl rfl (by k_ne) rfl H.f_loadU64 (x_loadU64_n L) (x_loadU64_b L) (x_loadU64_x L) .u64 (x_loadU64_f L) rfl hw.cellSt, fun _ => ?_, fun h => absurd rfl h⟩
    clear hw
    refine Well.walk (by first | exact hnoff | simp) (m := 60) ?_
    walk_nrm
    u_op IW.trans hF
    u_c stepG_region_end IW.trans hF
    u_c stepG_ret' IW.trans hF
    u_leave1 H.f_uLoad IW.trans hF
    u_op IW.trans hF
    u_c stepG_region_end IW.trans hF
    u_c stepG_seq IW.trans hF
    u_reg IW.trans hF
    u_op IW.trans hF
    u_op IW.trans hF
    u_op IW.trans hF
    u_op IW.trans hF
    u_c stepG_region_end IW.trans hF
    u_c stepG_seq IW.trans hF
    u_reg IW.trans hF
    u_op IW.trans hF
    u_op IW.trans hF
    u_op IW.trans hF
    u_op IW.trans hF
    u_c stepG_region_end IW.trans hF
    u_c stepG_seq IW.trans hF
    u_c stepG_seq IW.trans hF
    u_reg IW.trans hF
    u_op IW.trans hF
    u_op IW.trans hF
    u_c stepG_region_end IW.trans hF
    u_cond true IW.trans hF
    u_c stepG_seq IW.trans hF
    u_cond true IW.trans hF
    u_c stepG_seq IW.trans hF
    u_reg IW.trans hF
    refine Goes.stop (fun w₅ h₅ => ?_)
    replace hF := IW.trans hF h₅
    clear h₅
    refine Well.says (d := 0) (es := #[mk .enable]) rfl (by first | exact hnoff | simp) (by show deafBehind γ.deaf _ = _; rw [hd]; rfl) (by simp [mk, MemAct.ofEvent, MemAct.touch?]) (by simp [mk]) hF (fun w₂ h₂ => ⟨_, stepG_mark0 .enable (by simp) rfl rfl (by k_ne) rfl H.f_enable (x_enable_n L) (x_enable_b L) (x_enable_x L) (x_enable_f L), ?_⟩)
    replace hF := h₂
    clear h₂
    refine Well.walk (by first | exact hnoff | simp) (m := 12) ?_
    walk_nrm
    u_c stepG_region_end IW.trans hF
    u_reg IW.trans hF
    u_op IW.trans hF
    u_conv H.underlying_tWgP H.room_tWg (WgLive.cell0 hF.live).choose_spec IW.trans hF
    refine Goes.stop (fun w₆ h₆ => ?_)
    replace hF := IW.trans hF h₆
    clear h₆
    refine Well.acquire rfl rfl rfl (fun w₇ r₇ l₇ => ⟨_, stepG_markAt .acquire (by simp) rfl rfl (by k_ne) rfl H.f_acquire (x_acquire_n L) (x_acquire_b L) (x_acquire_x L) (x_acquire_f L) (by simp [Act.eval, stA]), ?_⟩)
    replace hF := IW.word hF r₇ l₇
    refine Well.walk (by first | exact hnoff | simp) (m := 30) ?_
    walk_nrm
    u_c stepG_region_end IW.trans hF
    u_c stepG_seq IW.trans hF
    u_c stepG_seq IW.trans hF
    u_reg IW.trans hF
    u_op IW.trans hF
    u_op IW.trans hF
    u_op IW.trans hF
    u_op IW.trans hF
    u_op IW.trans hF
    u_op IW.trans hF
    u_op IW.trans hF
    u_op IW.trans hF
    u_skip IW.trans hF
    u_skip IW.trans hF
    u_op IW.trans hF
    u_c stepG_region_end IW.trans hF
    u_cond false IW.trans hF
    u_c stepG_skip IW.trans hF
    u_c stepG_ret' IW.trans hF
    u_leave0 H.f_wait IW.trans hF
    exact Goes.stop (fun w₉ h₉ => hT _ (IW.trans hF h₉))
  · obtain ⟨S, hS⟩ : ∃ S : Int, (v : Int) * KK = S := ⟨_, rfl⟩
    have a1 : S / 4294967296 = (v : Int) := by rw [← hS]; simp only [KK]; omega
    have b1 : bits .and .u64 S 2147483648 = 0 := by rw [← hS]; have := st_flag v 0 (by omega) (by omega); simpa [KK] using this
    have b2 : bits .and .u64 S 2147483647 = 0 := by rw [← hS]; have := st_waiters v 0 (by omega) (by omega); simpa [KK] using this
    have c1 : IntKind.i32.wrap (v : Int) = (v : Int) := by rw [IntKind.wrap_i32]; omega
    have w1 : IntKind.u64.wrap (S + 1) = S + 1 := by rw [IntKind.wrap_u64, ← hS]; simp only [KK]; omega
    have q3 : decide ((v : Int) < 0) = false := decide_eq_false (by omega)
    have q4 : decide (0 < (v : Int)) = true := decide_eq_true (by omega)
    have q5 : ((v : Int) == 0) = false := by simp; omega
    have q6 : decide ((v : Int) = 0) = false := decide_eq_false (by omega)
    rw [hS] at hw
    refine ⟨_, stepG_load_atomic (v := S) rfl rfl (by k_ne) rfl H.f_loadU64 (x_loadU64_n L) (x_loadU64_b L) (x_loadU64_x L) .u64 (x_loadU64_f L) rfl hw.cellSt, fun h0 => absurd h0 (by omega), fun _ => ?_⟩
    clear hw
    refine Well.walk (by first | exact hnoff | simp) (m := 80) ?_
    walk_nrm
    u_op IW.trans hF
    u_c stepG_region_end IW.trans hF
    u_c stepG_ret' IW.trans hF
    u_leave1 H.f_uLoad IW.trans hF
    u_op IW.trans hF
    u_c stepG_region_end IW.trans hF
    u_c stepG_seq IW.trans hF
    u_reg IW.trans hF
    u_op IW.trans hF
    u_op IW.trans hF
    u_op IW.trans hF
    u_op IW.trans hF
    u_c stepG_region_end IW.trans hF
    u_c stepG_seq IW.trans hF
    u_reg IW.trans hF
    u_op IW.trans hF
    u_op IW.trans hF
    u_op IW.trans hF
    u_op IW.trans hF
    u_c stepG_region_end IW.trans hF
    u_c stepG_seq IW.trans hF
    u_c stepG_seq IW.trans hF
    u_reg IW.trans hF
    u_op IW.trans hF
    u_op IW.trans hF
    u_c stepG_region_end IW.trans hF
    u_cnd false IW.trans hF
    u_c stepG_skip IW.trans hF
    u_c stepG_seq IW.trans hF
    u_reg IW.trans hF
    u_op IW.trans hF
    u_op IW.trans hF
    u_op IW.trans hF
    u_op IW.trans hF
    u_op IW.trans hF
    u_op IW.trans hF
    u_call H.f_uCas (nm_uCas L) uCasFn IW.trans hF
    u_c stepG_seq IW.trans hF
    u_reg IW.trans hF
    u_op IW.trans hF
    u_c stepG_region_end IW.trans hF
    u_c stepG_seq IW.trans hF
    u_reg IW.trans hF
    u_op IW.trans hF
    u_op IW.trans hF
    u_op IW.trans hF
    u_op IW.trans hF
    u_op IW.trans hF
    refine Goes.stop (fun w₃ h₃ => ?_)
    replace hF := IW.trans hF h₃
    clear h₃
    refine Well.cas rfl rfl hvp (fun w₄ v' r₄ hv' hw => ⟨fun e => ?_, fun e => ?_⟩)
    · subst e
      rw [hS] at hw ⊢
      replace hF := IW.word hF r₄ ⟨_, _, hw⟩
      refine ⟨_, (stepG_cas_hit (v := S) (n := S + 1) rfl rfl (by k_ne) rfl H.f_casU64 (x_casU64_n L) (x_casU64_b L) (x_casU64_x L) .u64 (x_casU64_f L) rfl rfl rfl hw.cellSt (hw.thaw 0)).trans (by rfl), ?_⟩
      replace hF := hF.put (v := .int .u64 (S + 1)) (a := stA wg) hO hN rfl ⟨_, _, hw.setSt _⟩
      clear hw
      refine Well.walk (by first | exact hnoff | simp) (m := 80) ?_
      walk_nrm
      u_op IW.trans hF
      u_c stepG_region_end IW.trans hF
      u_c stepG_ret' IW.trans hF
      u_leave1 H.f_uCas IW.trans hF
      u_c stepG_region_end IW.trans hF
      u_cond true IW.trans hF
      u_c stepG_seq IW.trans hF
      u_c stepG_seq IW.trans hF
      u_reg IW.trans hF
      u_op IW.trans hF
      u_op IW.trans hF
      u_op IW.trans hF
      u_op IW.trans hF
      u_c stepG_region_end IW.trans hF
      u_cond true IW.trans hF
      u_reg IW.trans hF
      u_op IW.trans hF
      u_op IW.trans hF
      u_op IW.trans hF
      u_conv H.underlying_tPU32 H.room_tU32 (WgLive.cell1 hF.live).choose_spec IW.trans hF
      refine Goes.stop (fun w₅ h₅ => ?_)
      replace hF := IW.trans hF h₅
      clear h₅
      refine Well.says (d := 1) (es := #[⟨.mark (.write ⟨wg, 1, none⟩), false, true⟩]) rfl (by first | exact hnoff | simp) (by show deafBehind γ.deaf _ = _; rw [hd]; rfl) (by simp [MemAct.ofEvent, MemAct.touch?, inB]) (by simp) hF (fun w₆ h₆ => ⟨_, stepG_markAt .write (by simp) rfl rfl (by k_ne) rfl H.f_raceWrite (x_raceWrite_n L) (x_raceWrite_b L) (x_raceWrite_x L) (x_raceWrite_f L) (ad := ⟨wg, 1, none⟩) (by simp [Act.eval]), ?_⟩)
      replace hF := h₆
      clear h₆
      refine Well.walk (by first | exact hnoff | simp) (m := 80) ?_
      walk_nrm
      u_c stepG_region_end IW.trans hF
      u_c stepG_seq IW.trans hF
      u_reg IW.trans hF
      u_op IW.trans hF
      u_c stepG_region_end IW.trans hF
      u_c stepG_seq IW.trans hF
      u_c stepG_seq IW.trans hF
      u_reg IW.trans hF
      u_op IW.trans hF
      u_op IW.trans hF
      u_op IW.trans hF
      u_op IW.trans hF
      u_skip IW.trans hF
      u_op IW.trans hF
      u_c stepG_region_end IW.trans hF
      u_cond false IW.trans hF
      u_c stepG_skip IW.trans hF
      u_c stepG_seq IW.trans hF
      u_reg IW.trans hF
      u_op IW.trans hF
      u_op IW.trans hF
      u_op IW.trans hF
      u_op IW.trans hF
      refine Goes.stop (fun w₇ h₇ => ?_)
      replace hF := IW.trans hF h₇
      clear h₇
      refine Well.sema rfl rfl hgone rfl (fun w₈ r₈ ⟨st, hw⟩ => stepG_semacquire_wait rfl rfl rfl H.f_semacquire (x_semacquire_n L) (x_semacquire_b L) (x_semacquire_x L) (x_semacquire_f L) (by simp [Act.eval, smA]) hw.cellSm) (fun w₈ r₈ hf => ?_)
      refine ⟨_, (stepG_semacquire (n := 1) rfl rfl (by k_ne) rfl H.f_semacquire (x_semacquire_n L) (x_semacquire_b L) (x_semacquire_x L) (x_semacquire_f L) (by simp [Act.eval, smA]) hf.cellSm (by k_ne) (hf.thaw 1)).trans (by rfl), ?_⟩
      replace hF := IW.word hF r₈ ⟨_, _, hf⟩
      replace hF := hF.put (v := .int .u32 0) (a := smA wg) hO hN rfl ⟨_, _, hf.setSm 0⟩
      clear hf
      refine Well.walk (by first | exact hnoff | simp) (m := 80) ?_
      walk_nrm
      u_c stepG_region_end IW.trans hF
      u_c stepG_seq IW.trans hF
      u_reg IW.trans hF
      u_op IW.trans hF
      u_op IW.trans hF
      u_op IW.trans hF
      u_call H.f_uLoad (nm_uLoad L) uLoadFn IW.trans hF
      u_c stepG_seq IW.trans hF
      u_reg IW.trans hF
      u_op IW.trans hF
      u_c stepG_region_end IW.trans hF
      u_c stepG_seq IW.trans hF
      u_reg IW.trans hF
      u_op IW.trans hF
      u_op IW.trans hF
      u_op IW.trans hF
      refine Goes.stop (fun w₉ h₉ => ?_)
      replace hF := IW.trans hF h₉
      clear h₉
      refine Well.seenDone rfl rfl (fun w₁ r₁ hw => ⟨_, stepG_load_atomic (v := 0) rfl rfl (by k_ne) rfl H.f_loadU64 (x_loadU64_n L) (x_loadU64_b L) (x_loadU64_x L) .u64 (x_loadU64_f L) rfl hw.cellSt, ?_⟩)
      replace hF := IW.word hF r₁ ⟨_, _, hw⟩
      clear hw
      refine Well.walk (by first | exact hnoff | simp) (m := 80) ?_
      walk_nrm
      u_op IW.trans hF
      u_c stepG_region_end IW.trans hF
      u_c stepG_ret' IW.trans hF
      u_leave1 H.f_uLoad IW.trans hF
      u_op IW.trans hF
      u_op IW.trans hF
      u_c stepG_region_end IW.trans hF
      u_c stepG_seq IW.trans hF
      u_cond true IW.trans hF
      u_c stepG_seq IW.trans hF
      u_reg IW.trans hF
      refine Goes.stop (fun w₅ h₅ => ?_)
      replace hF := IW.trans hF h₅
      clear h₅
      refine Well.says (d := 0) (es := #[mk .enable]) rfl (by first | exact hnoff | simp) (by first | rfl | (show deafBehind γ.deaf _ = _; rw [hd]; rfl)) (by simp [mk, MemAct.ofEvent, MemAct.touch?]) (by simp [mk]) hF (fun w₂ h₂ => ⟨_, stepG_mark0 .enable (by simp) rfl rfl (by k_ne) rfl H.f_enable (x_enable_n L) (x_enable_b L) (x_enable_x L) (x_enable_f L), ?_⟩)
      replace hF := h₂
      clear h₂
      refine Well.walk (by first | exact hnoff | simp) (m := 12) ?_
      walk_nrm
      u_c stepG_region_end IW.trans hF
      u_reg IW.trans hF
      u_op IW.trans hF
      u_conv H.underlying_tWgP H.room_tWg (WgLive.cell0 hF.live).choose_spec IW.trans hF
      refine Goes.stop (fun w₆ h₆ => ?_)
      replace hF := IW.trans hF h₆
      clear h₆
      refine Well.acquire rfl rfl rfl (fun w₇ r₇ l₇ => ⟨_, stepG_markAt .acquire (by simp) rfl rfl (by k_ne) rfl H.f_acquire (x_acquire_n L) (x_acquire_b L) (x_acquire_x L) (x_acquire_f L) (by simp [Act.eval, stA]), ?_⟩)
      replace hF := IW.word hF r₇ l₇
      refine Well.walk (by first | exact hnoff | simp) (m := 30) ?_
      walk_nrm
      u_c stepG_region_end IW.trans hF
      u_c stepG_seq IW.trans hF
      u_c stepG_seq IW.trans hF
      u_reg IW.trans hF
      u_op IW.trans hF
      u_c stepG_region_end IW.trans hF
      u_cond false IW.trans hF
      u_c stepG_skip IW.trans hF
      u_c stepG_ret' IW.trans hF
      u_leave0 H.f_wait IW.trans hF
      exact Goes.stop (fun w₉ h₉ => hT _ (IW.trans hF h₉))
    · replace hF := IW.word hF r₄ ⟨_, _, hw⟩
      refine ⟨_, stepG_cas_miss (v := (v' : Int) * KK) (old := S) (n := S + 1) rfl rfl (by k_ne) rfl H.f_casU64 (x_casU64_n L) (x_casU64_b L) (x_casU64_x L) .u64 (x_casU64_f L) rfl rfl rfl hw.cellSt (hw.thaw 0) (by rw [← hS]; simp only [KK]; omega), ?_⟩
      clear hw
      refine Well.walk (by first | exact hnoff | simp) (m := 30) ?_
      walk_nrm
      u_op IW.trans hF
      u_c stepG_region_end IW.trans hF
      u_c stepG_ret' IW.trans hF
      u_leave1 H.f_uCas IW.trans hF
      u_c stepG_region_end IW.trans hF
      u_cond false IW.trans hF
      u_c stepG_skip IW.trans hF
      u_c stepG_inBlock IW.trans hF
      u_c stepG_inLoop IW.trans hF
      exact Goes.stop (fun w₉ h₉ => hB _ _ _ (by omega) (by simp) (by simp) (IW.trans hF h₉))

theorem wRounds (H : WgLib P L) (hd : γ.deaf = 1) (hgone : ∀ k, γ.base ≤ k → k < γ.n → γ.m k = .gone)
    (hT : ∀ w', IW N O L.tWg wg w0 w' → Well P Post R N L.tWg wg O { γ with wp := .fin, acq := true, deaf := 0 } (G (b₀.at (a₀.put ((ops₀[i₀]?).bind (·.dst)) (.tuple #[])) (.inRegion ops₀ rest₀ :: k₀)) cs) w') (b : Nat) :
    ∀ (T : Array Value) (w : World), T.size = 84 → T[0]? = some (.pointer (some ⟨wg, 0, none⟩)) → IW N O L.tWg wg w0 w →
      Well P Post R N L.tWg wg O { γ with wp := .seen b } (headW L T (b₀.at a₀ (.inRegion ops₀ (i₀ :: rest₀) :: k₀)) cs) w := by
  induction b using Nat.strongRecOn with
  | ind b ih =>
    intro T w hs h0 hF
    exact wRound H hs h0 rfl hd hgone (fun w' r => hT w' (IW.trans hF r)) fun b' T' w' hb hs' h0' r => ih b' hb T' w' hs' h0' (IW.trans hF r)

set_option maxRecDepth 100000 in
theorem wWait (H : WgLib P L) (hwp : γ.wp = .opn) (hp : γ.pend = 0) (hd : γ.deaf = 0) (hgone : ∀ k, γ.base ≤ k → k < γ.n → γ.m k = .gone)
    (hT : ∀ w', IW N O L.tWg wg w w' → Well P Post R N L.tWg wg O { γ with wp := .fin, acq := true } (G (b₀.at (a₀.put ((ops₀[i₀]?).bind (·.dst)) (.tuple #[])) (.inRegion ops₀ rest₀ :: k₀)) cs) w') :
    Well P Post R N L.tWg wg O γ (G ((base L.wait).at ⟨#[.pointer (some ⟨wg, 0, none⟩)] ++ Array.replicate 83 undef, []⟩ [.code (body_wait L)]) (b₀.at a₀ (.inRegion ops₀ (i₀ :: rest₀) :: k₀) :: cs)) w := by
  have hnoff : γ.wp ≠ .off := by rw [hwp]; simp
  refine Well.free hnoff fun hO hN hF => ?_
  lib_facts
  simp only [body_wait, waitFn, Option.getD_some]
  walk_nrm
  refine Well.walk hnoff (m := 5) ?_
  u_c stepG_seq IW.trans hF
  u_cond true IW.trans hF
  u_reg IW.trans hF
  refine Goes.stop (fun w₁ h₁ => ?_)
  replace hF := IW.trans hF h₁
  clear h₁
  refine Well.says (d := 1) (es := #[mk .disable]) rfl hnoff (by rw [hd]; rfl) (by simp [mk, MemAct.ofEvent, MemAct.touch?]) (by simp [mk]) hF (fun w₂ h₂ => ⟨_, stepG_mark0 .disable (by simp) rfl rfl (by k_ne) rfl H.f_disable (x_disable_n L) (x_disable_b L) (x_disable_x L) (x_disable_f L), ?_⟩)
  replace hF := h₂
  clear h₂
  refine Well.walk (by first | exact hnoff | simp) (m := 5) ?_
  walk_nrm
  u_c stepG_region_end IW.trans hF
  u_c stepG_block IW.trans hF
  u_c stepG_loop IW.trans hF
  refine Goes.stop (fun w₃ h₃ => Well.seen hwp hp fun b => ?_)
  refine wRounds (γ := { γ with deaf := 1 }) H rfl hgone (fun w' r => ?_) b _ w₃ (by rfl) (by rfl) (IW.trans hF h₃)
  have hh := hT w' r
  rw [hd] at hh
  exact hh
end
end Go.Proofs.Ytnmhgfeglfcbgaa
