/-
  Proved here: WHATEVER STEP A WORKER TAKES: it keeps what holds of the machine and lowers its rank, or it stands at a communication at which the starter waits.
  Conditions: none beyond the law's own.
-/
import Derived.Test.YtnmhgfeglfcbgaaStep
namespace Go.Proofs.Ytnmhgfeglfcbgaa
open Go.Conc
open Go.ConcR (KK wgBlock WgAt stA smA rd wr DC0)
open Go.ConcN (WgLive sumTo)

section
variable {P : Program} {R : Nat → Prop} {N : Nat} {ty : TypeId} {wg : Nat} {Sh : Nat → Prop} {γ γ' : Gh} {O O' : Nat → Prop} {gs gs' : Array Goroutine} {w w' : World} {t u : Trace} {D D' : Nat → WD}

theorem Conf.cntB (h : Conf P R N ty wg Sh γ O gs w t D) : cntTo γ.n D ≤ 1000000 := by
  have := cntTo_bound (D := D) (b := γ.base) (n := γ.n) fun i h1 _ => by
    rcases Nat.eq_zero_or_pos i with rfl | h0
    · rw [h.zero]; rfl
    · rw [h.lv i h0 h1]; rfl
  have := h.small
  omega

theorem quit_set {i : Nat} {d : WD} (hq : d.s = .quit) (h : ∀ k, k < γ.n → k ≠ i → (D k).s = .quit) : ∀ k, k < γ.n → ((setD D i d) k).s = .quit := fun k hk => by
  by_cases e : k = i
  · subst e; rw [setD_same]; exact hq
  · rw [setD_ne D d e]; exact h k hk e

section
variable (h : Conf P R N ty wg Sh γ O gs w t D) {i : Nat} (h1 : γ.base ≤ i) (h2 : i < γ.n) {g x0 : Goroutine} (hgi : gs[i]? = some g) (hx : gs[0]? = some x0) (sl : Option (Nat × Nat))
include h h1 h2 hgi hx

theorem turn_rel (hs : (D i).s = .run .D0) (hd : (D i).d = 0) {τ' : Tr} {g' : Goroutine} (hlt : Tr.Lt τ' (D i).τ) (hgo : stepG P false g w = .go g' w #[Go.ConcR.mk (.releaseMerge (stA wg))])
    (hW : WGo P R N ty wg (γ.K i) τ' .D1 (D i).O g' w) : Prog P R N ty wg Sh γ O gs w sl t D i x0 := by
  have hf := h.fit i h1 h2
  rw [hs] at hf
  have hb1 := h.base1
  obtain ⟨_, _, _, hdf⟩ := h.wk i (by omega) h2
  refine turn_group h h1 h2 hgi hx sl hs (d := ⟨.run .D1, τ', (D i).O, 0⟩) (by unfold WD.rk; rw [hs]; exact .tr hlt) hgo (Chg.refl _ w) ⟨hW, rfl⟩ rfl (by rw [hd]; rfl) ?_ (by rw [hs]; rfl) (fun e he x hx => ?_) (fun e he => ?_)
    (fun _ => ⟨_, RelB.new (by rw [hdf, hd])⟩) (h.mode.same h2 (by rw [hs]; rfl) rfl rfl) (by simp) (.inr (.inl (by simp)))
  · cases hmm : γ.m i <;> rw [hmm] at hf <;> first | exact hf | exact hf.elim
  · have : e = Go.ConcR.mk (.releaseMerge (stA wg)) := by simpa using he
    subst this
    simp [Go.ConcR.mk, MemAct.ofEvent, MemAct.touch?] at hx
  · have : e = Go.ConcR.mk (.releaseMerge (stA wg)) := by simpa using he
    subst this
    simp [Go.ConcR.mk]

theorem turn_dis (hs : (D i).s = .run .D1) (hd : (D i).d = 0) {τ' : Tr} {g' : Goroutine} (hlt : Tr.Lt τ' (D i).τ) (hgo : stepG P false g w = .go g' w #[Go.ConcR.mk .disable])
    (hW : WGo P R N ty wg (γ.K i) τ' .D2 (D i).O g' w) : Prog P R N ty wg Sh γ O gs w sl t D i x0 := by
  have hf := h.fit i h1 h2
  rw [hs] at hf
  obtain ⟨r, hr⟩ := h.rel i h1 h2 (by rw [hs]; rfl)
  refine turn_group h h1 h2 hgi hx sl hs (d := ⟨.run .D2, τ', (D i).O, 1⟩) (by unfold WD.rk; rw [hs]; exact .tr hlt) hgo (Chg.refl _ w) ⟨hW, rfl⟩ rfl (by rw [hd]; rfl) ?_ (by rw [hs]; rfl) (fun e he x hx => ?_) (fun e he => ?_)
    (fun _ => ⟨r, hr.idle fun op hop _ => ?_⟩) (h.mode.same h2 (by rw [hs]; rfl) rfl rfl) (by simp) (.inr (.inl (by simp)))
  · cases hmm : γ.m i <;> rw [hmm] at hf <;> first | exact hf | exact hf.elim
  · have : e = Go.ConcR.mk .disable := by simpa using he
    subst this
    simp [Go.ConcR.mk, MemAct.ofEvent, MemAct.touch?] at hx
  · have : e = Go.ConcR.mk .disable := by simpa using he
    subst this
    simp [Go.ConcR.mk]
  · obtain ⟨e, he, rfl⟩ := mem_ofEvents hop
    have : e = Go.ConcR.mk .disable := by simpa using he
    subst this
    rfl

theorem rw_evs {es : Array Event} (hes : ∀ e ∈ es, e = rd (stA wg) ∨ e = wr (stA wg)) :
    (∀ e ∈ es, ∀ x, (MemAct.ofEvent e).touch? = some x → inB (· = wg) x.loc ∧ x.kind = .atomic) ∧ (∀ e ∈ es, e.loc ≠ .mark (.release (stA wg))) ∧ (∀ d, deafBehind d es = d) ∧
      (Deaf t i = 1 → ∀ r, RelB wg t i r → RelB wg (t ++ MemOp.ofEvents i g.frame.fn g.frame.place es) i r) := by
  have _ := h
  have _ := h1
  have _ := h2
  have _ := hgi
  have _ := hx
  have ht : ∀ e ∈ es, ∀ x, (MemAct.ofEvent e).touch? = some x → inB (· = wg) x.loc ∧ x.kind = .atomic := fun e he x hx => by
    rcases hes e he with rfl | rfl
    · obtain ⟨e1, e2⟩ := rd_touch hx; exact ⟨⟨_, e1, rfl⟩, e2⟩
    · obtain ⟨e1, e2⟩ := wr_touch hx; exact ⟨⟨_, e1, rfl⟩, e2⟩
  have hm : ∀ e ∈ es, e.loc ≠ .mark .disable ∧ e.loc ≠ .mark .enable := fun e he => by rcases hes e he with rfl | rfl <;> simp [rd, wr]
  refine ⟨ht, fun e he => by rcases hes e he with rfl | rfl <;> simp [rd, wr], fun d => deafBehind_none hm, fun hd r hr => hr.own _ _ es fun j e he a ha => ?_⟩
  obtain ⟨e1, e2⟩ := ht e (Array.mem_of_getElem? he) a ha
  refine ⟨e1, e2, ?_⟩
  rw [deafBehind_none (fun e' he' => hm e' (by
    obtain ⟨k, hk, e⟩ := Array.mem_iff_getElem.1 he'
    rw [← e, Array.getElem_extract]
    exact Array.getElem_mem _)), hd]
  exact Nat.one_pos

theorem turn_add (hs : (D i).s = .run .D2) (hd : (D i).d = 1) {I : Type} {f : I → Tr} (hτ : (D i).τ = .node I f)
    (hW : ∀ v wt : Nat, wt ≤ 1 → v < 2147483647 → WgAt ty wg w ((v + 1) * KK + wt) 0 → ∃ g', stepG P false g w = .go g' (w.setCell (stA wg) (.int .u64 (v * KK + wt))) #[rd (stA wg), wr (stA wg)] ∧
      ((v = 0 ∧ wt = 1) → ∃ i', WGo P R N ty wg (γ.K i) (f i') .D3 (D i).O g' (w.setCell (stA wg) (.int .u64 (v * KK + wt)))) ∧ (¬ (v = 0 ∧ wt = 1) → ∃ q, QuitsD P q 1 g')) : Prog P R N ty wg Sh γ O gs w sl t D i x0 := by
  have hf := h.fit i h1 h2
  rw [hs] at hf
  have hb1 := h.base1
  obtain ⟨_, _, _, hdf⟩ := h.wk i (by omega) h2
  obtain ⟨r, hr⟩ := h.rel i h1 h2 (by rw [hs]; rfl)
  have hcnt : (D i).s.cnt = 1 := by rw [hs]; rfl
  have hV := cnt_pos h2 hcnt
  have hB := h.cntB
  obtain ⟨k1, k2, k3, k4⟩ := rw_evs (t := t) h h1 h2 hgi hx (es := #[rd (stA wg), wr (stA wg)]) (fun e he => by simpa using he)
  have hchg : ∀ v, Chg (· = wg) w (w.setCell (stA wg) v) := fun v => setCell_chg w (stA wg) v
  -- it leaves
  have leave : ∀ (v wt : Nat) (g' : Goroutine) (q : Nat), stepG P false g w = .go g' (w.setCell (stA wg) (.int .u64 (v * KK + wt))) #[rd (stA wg), wr (stA wg)] → QuitsD P q 1 g' →
      (∀ d : WD, d.s = .quit → Mode ty wg γ (setD D i d) (w.setCell (stA wg) (.int .u64 (v * KK + wt)))) → (γ.wp ≠ .reg ∨ ∃ k, k < γ.n ∧ k ≠ i ∧ (D k).s ≠ .quit) → Prog P R N ty wg Sh γ O gs w sl t D i x0 := by
    intro v wt g' q hgo hq hmode hqq
    refine turn_group h h1 h2 hgi hx sl hs (d := ⟨.quit, trOf q, (D i).O, 1⟩) (by unfold WD.rk; rw [hs]; exact .act) hgo (hchg _) ⟨q, rfl, hq⟩ rfl (by rw [hd]; exact k3 1) ?_ (by rw [hs]; rfl) k1 k2 (fun _ => ⟨r, k4 (by rw [hdf, hd]) r hr⟩) (hmode _ rfl) (by simp) (hqq.elim (fun e => .inr (.inr (.inr (.inl e)))) (fun e => .inr (.inr (.inr (.inr e)))))
    cases hmm : γ.m i <;> rw [hmm] at hf <;> first | exact hf | exact hf.elim
  have hcq : ∀ d : WD, d.s = .quit → cntTo γ.n (setD D i d) + 1 = cntTo γ.n D := fun d e => by
    have := sumTo_set D d h2
    rw [hcnt, e] at this
    exact this
  have hoq : (∀ k, k < γ.n → (D k).s.open = true) → ∀ d : WD, d.s = .quit → ∀ k, k < γ.n → ((setD D i d) k).s.open = true := fun ho d e k hk => by
    by_cases e' : k = i
    · subst e'; rw [setD_same, e]; rfl
    · rw [setD_ne D d e']; exact ho k hk
  have hmode := h.mode
  have hnoff := h.notOff h1 h2
  cases hwp : γ.wp with
  | off => exact absurd hwp hnoff
  | fin =>
    unfold Mode at hmode
    rw [hwp] at hmode
    have := hmode.1 i h2
    rw [hs] at this; cases this
  | opn =>
    unfold Mode at hmode
    rw [hwp] at hmode
    obtain ⟨ho, hat, hp⟩ := hmode
    have e1 : (((cntTo γ.n D + γ.pend : Nat) : Int) * KK) = (((cntTo γ.n D + γ.pend - 1 : Nat) : Int) + 1) * KK + ((0 : Nat) : Int) := by
      have : ((cntTo γ.n D + γ.pend : Nat) : Int) = ((cntTo γ.n D + γ.pend - 1 : Nat) : Int) + 1 := by omega
      rw [this]; simp
    rw [e1] at hat
    obtain ⟨g', hgo, _, hq⟩ := hW _ 0 (by omega) (by omega) hat
    obtain ⟨q, hq⟩ := hq (by omega)
    refine leave _ 0 g' q hgo hq (fun d e => ?_) (.inl (by rw [hwp]; simp))
    unfold Mode
    rw [hwp]
    refine ⟨hoq ho d e, ?_, hp⟩
    have e2 : (((cntTo γ.n (setD D i d) + γ.pend : Nat) : Int) * KK) = ((cntTo γ.n D + γ.pend - 1 : Nat) : Int) * KK + ((0 : Nat) : Int) := by
      have := hcq d e
      have : cntTo γ.n (setD D i d) + γ.pend = cntTo γ.n D + γ.pend - 1 := by omega
      rw [this]; simp
    rw [e2]
    exact hat.setSt _
  | seen vs =>
    unfold Mode at hmode
    rw [hwp] at hmode
    obtain ⟨ho, hat, hvs⟩ := hmode
    have e1 : (((cntTo γ.n D : Nat) : Int) * KK) = (((cntTo γ.n D - 1 : Nat) : Int) + 1) * KK + ((0 : Nat) : Int) := by
      have : ((cntTo γ.n D : Nat) : Int) = ((cntTo γ.n D - 1 : Nat) : Int) + 1 := by omega
      rw [this]; simp
    rw [e1] at hat
    obtain ⟨g', hgo, _, hq⟩ := hW _ 0 (by omega) (by omega) hat
    obtain ⟨q, hq⟩ := hq (by omega)
    refine leave _ 0 g' q hgo hq (fun d e => ?_) (.inl (by rw [hwp]; simp))
    unfold Mode
    rw [hwp]
    have hc := hcq d e
    refine ⟨hoq ho d e, ?_, by omega⟩
    have e2 : (((cntTo γ.n (setD D i d) : Nat) : Int) * KK) = ((cntTo γ.n D - 1 : Nat) : Int) * KK + ((0 : Nat) : Int) := by
      have : cntTo γ.n (setD D i d) = cntTo γ.n D - 1 := by omega
      rw [this]; simp
    rw [e2]
    exact hat.setSt _
  | reg =>
    unfold Mode at hmode
    rw [hwp] at hmode
    rcases hmode with ⟨ho, hv, hat⟩ | ⟨l, _, hl, hq, _⟩ | ⟨l, _, hl, hq, _⟩ | ⟨hq, _⟩
    · have e1 : (((cntTo γ.n D : Nat) : Int) * KK + 1) = (((cntTo γ.n D - 1 : Nat) : Int) + 1) * KK + ((1 : Nat) : Int) := by
        have : ((cntTo γ.n D : Nat) : Int) = ((cntTo γ.n D - 1 : Nat) : Int) + 1 := by omega
        rw [this]; simp
      rw [e1] at hat
      obtain ⟨g', hgo, hd3, hq⟩ := hW _ 1 (by omega) (by omega) hat
      by_cases h0 : cntTo γ.n D - 1 = 0
      · -- the last one, and the starter waits
        obtain ⟨i', hτ'⟩ := hd3 ⟨h0, rfl⟩
        have hothers : ∀ k, k < γ.n → k ≠ i → (D k).s = .quit := fun k hk hki => by
          have := sumTo_set D ⟨.quit, (D i).τ, (D i).O, 0⟩ h2
          have h00 : cntTo γ.n (setD D i ⟨.quit, (D i).τ, (D i).O, 0⟩) = 0 := by
            rw [hcnt] at this
            have e : (WD.mk .quit (D i).τ (D i).O 0).s.cnt = 0 := rfl
            rw [e] at this
            omega
          have := cntTo_zero h00 hk
          rw [setD_ne D _ hki] at this
          exact quit_of this (ho k hk)
        have e2 : ((cntTo γ.n D - 1 : Nat) : Int) * KK + ((1 : Nat) : Int) = 1 := by rw [h0]; simp
        rw [e2] at hgo hτ'
        refine turn_group h h1 h2 hgi hx sl hs (d := ⟨.run .D3, f i', (D i).O, 1⟩) (by unfold WD.rk; rw [hs, hτ]; exact .tr (.mk f i')) hgo (hchg _) ⟨hτ', rfl⟩ rfl (by rw [hd]; exact k3 1) ?_ (by rw [hs]; rfl) k1 k2 (fun _ => ⟨r, k4 (by rw [hdf, hd]) r hr⟩) ?_ (by simp) (.inr (.inl (by simp)))
        · cases hmm : γ.m i <;> rw [hmm] at hf <;> first | exact hf | exact hf.elim
        · unfold Mode
          rw [hwp]
          exact .inr (.inl ⟨i, h2, .inl (by rw [setD_same]), fun k hk hki => by rw [setD_ne D _ hki]; exact hothers k hk hki, hat.setSt 1⟩)
      · obtain ⟨q, hq⟩ := hq (fun e => h0 e.1)
        refine leave _ 1 g' q hgo hq (fun d e => ?_) (.inr ?_)
        · unfold Mode
          rw [hwp]
          have hc := hcq d e
          refine .inl ⟨hoq ho d e, by omega, ?_⟩
          have e2 : (((cntTo γ.n (setD D i d) : Nat) : Int) * KK + 1) = ((cntTo γ.n D - 1 : Nat) : Int) * KK + ((1 : Nat) : Int) := by
            have : cntTo γ.n (setD D i d) = cntTo γ.n D - 1 := by omega
            rw [this]; simp
          rw [e2]
          exact hat.setSt _
        · -- somebody else is left
          refine Classical.byContradiction fun hn => ?_
          have hall : ∀ k, k < γ.n → k ≠ i → (D k).s = .quit := fun k hk hki => Classical.byContradiction fun hx => hn ⟨k, hk, hki, hx⟩
          have hz : ∀ k, k < γ.n → ((setD D i ⟨.quit, (D i).τ, (D i).O, 0⟩) k).s = .quit := quit_set rfl hall
          have : cntTo γ.n (setD D i ⟨.quit, (D i).τ, (D i).O, 0⟩) = 0 := by
            have := ConcN.sumTo_le (f := fun k => ((setD D i ⟨.quit, (D i).τ, (D i).O, 0⟩) k).s.cnt) (c := 0) (j := γ.n) fun k hk => by simp only [hz k hk]; exact Nat.le_refl _
            unfold cntTo; omega
          have h3 := hcq ⟨.quit, (D i).τ, (D i).O, 0⟩ rfl
          omega
    · exfalso
      by_cases e : i = l
      · subst e; rw [hs] at hl; rcases hl with hl | hl <;> cases hl
      · have := hq i h2 e; rw [hs] at this; cases this
    · exfalso
      by_cases e : i = l
      · subst e; rw [hs] at hl; cases hl
      · have := hq i h2 e; rw [hs] at this; cases this
    · have := hq i h2; rw [hs] at this; cases this

/-- Only the last one on its way comes here. -/
theorem lastOne (hs : (D i).s = .run .D3 ∨ (D i).s = .run .D4) : γ.wp = .reg ∧ (∀ k, k < γ.n → k ≠ i → (D k).s = .quit) ∧ WgAt ty wg w 1 0 := by
  have _ := hgi
  have _ := hx
  have hmode := h.mode
  have hno : (D i).s.open = false := by rcases hs with e | e <;> rw [e] <;> rfl
  have nq : (D i).s ≠ .quit := by rcases hs with e | e <;> rw [e] <;> simp
  unfold Mode at hmode
  split at hmode <;> rename_i hwp
  · exact absurd hwp (h.notOff h1 h2)
  · have := hmode.1 i h2; rw [hno] at this; cases this
  · have := hmode.1 i h2; rw [hno] at this; cases this
  · rcases hmode with ⟨ho, _⟩ | ⟨l, _, hl, hq, hat⟩ | ⟨l, _, hl, hq, _⟩ | ⟨hq, _⟩
    · have := ho i h2; rw [hno] at this; cases this
    · by_cases e : i = l
      · subst e; exact ⟨hwp, hq, hat⟩
      · exact absurd (hq i h2 e) nq
    · exfalso
      by_cases e : i = l
      · subst e; rcases hs with h' | h' <;> rw [h'] at hl <;> cases hl
      · exact absurd (hq i h2 e) nq
    · exact absurd (hq i h2) nq
  · exact absurd (hmode.1 i h2) nq

theorem turn_ld (hs : (D i).s = .run .D3) (hd : (D i).d = 1) {τ' : Tr} {g' : Goroutine} (hlt : Tr.Lt τ' (D i).τ) (hgo : stepG P false g w = .go g' w #[rd (stA wg)])
    (hW : WGo P R N ty wg (γ.K i) τ' .D4 (D i).O g' w) : Prog P R N ty wg Sh γ O gs w sl t D i x0 := by
  have hf := h.fit i h1 h2
  rw [hs] at hf
  have hb1 := h.base1
  obtain ⟨_, _, _, hdf⟩ := h.wk i (by omega) h2
  obtain ⟨r, hr⟩ := h.rel i h1 h2 (by rw [hs]; rfl)
  obtain ⟨k1, k2, k3, k4⟩ := rw_evs (t := t) h h1 h2 hgi hx (es := #[rd (stA wg)]) (fun e he => .inl (by simpa using he))
  obtain ⟨l1, l2, l3⟩ := lastOne h h1 h2 hgi hx (.inl hs)
  refine turn_group h h1 h2 hgi hx sl hs (d := ⟨.run .D4, τ', (D i).O, 1⟩) (by unfold WD.rk; rw [hs]; exact .tr hlt) hgo (Chg.refl _ w) ⟨hW, rfl⟩ rfl (by rw [hd]; exact k3 1) ?_ (by rw [hs]; rfl) k1 k2 (fun _ => ⟨r, k4 (by rw [hdf, hd]) r hr⟩) ?_ (by simp) (.inr (.inl (by simp)))
  · cases hmm : γ.m i <;> rw [hmm] at hf <;> first | exact hf | exact hf.elim
  · unfold Mode
    rw [l1]
    exact .inr (.inl ⟨i, h2, .inr (by rw [setD_same]), fun k hk hki => by rw [setD_ne D _ hki]; exact l2 k hk hki, l3⟩)

theorem turn_st (hs : (D i).s = .run .D4) (hd : (D i).d = 1) {τ' : Tr} {g' : Goroutine} (hlt : Tr.Lt τ' (D i).τ) (hgo : stepG P false g w = .go g' (w.setCell (stA wg) (.int .u64 0)) #[wr (stA wg)])
    (hW : WGo P R N ty wg (γ.K i) τ' .D5 (D i).O g' (w.setCell (stA wg) (.int .u64 0))) : Prog P R N ty wg Sh γ O gs w sl t D i x0 := by
  have hf := h.fit i h1 h2
  rw [hs] at hf
  have hb1 := h.base1
  obtain ⟨_, _, _, hdf⟩ := h.wk i (by omega) h2
  obtain ⟨r, hr⟩ := h.rel i h1 h2 (by rw [hs]; rfl)
  obtain ⟨k1, k2, k3, k4⟩ := rw_evs (t := t) h h1 h2 hgi hx (es := #[wr (stA wg)]) (fun e he => .inr (by simpa using he))
  obtain ⟨l1, l2, l3⟩ := lastOne h h1 h2 hgi hx (.inr hs)
  refine turn_group h h1 h2 hgi hx sl hs (d := ⟨.run .D5, τ', (D i).O, 1⟩) (by unfold WD.rk; rw [hs]; exact .tr hlt) hgo (setCell_chg w (stA wg) _) ⟨hW, rfl⟩ rfl (by rw [hd]; exact k3 1) ?_ (by rw [hs]; rfl) k1 k2 (fun _ => ⟨r, k4 (by rw [hdf, hd]) r hr⟩) ?_ (by simp) (.inr (.inl (by simp)))
  · cases hmm : γ.m i <;> rw [hmm] at hf <;> first | exact hf | exact hf.elim
  · unfold Mode
    rw [l1]
    exact .inr (.inr (.inl ⟨i, h2, by rw [setD_same], fun k hk hki => by rw [setD_ne D _ hki]; exact l2 k hk hki, l3.setSt 0⟩))

theorem turn_sem (hs : (D i).s = .run .D5) (hd : (D i).d = 1) {g' : Goroutine} {q : Nat} (hm : mayWake P g = true) (hgo : WgAt ty wg w 0 0 → stepG P false g w = .go g' (w.setCell (smA wg) (.int .u32 1)) (semEvents (smA wg)))
    (hq : QuitsD P q 1 g') (hrun : g'.status = .running) : Prog P R N ty wg Sh γ O gs w sl t D i x0 := by
  have hf := h.fit i h1 h2
  rw [hs] at hf
  have hb1 := h.base1
  obtain ⟨_, _, _, hdf⟩ := h.wk i (by omega) h2
  obtain ⟨r, hr⟩ := h.rel i h1 h2 (by rw [hs]; rfl)
  obtain ⟨l1, l2, l3⟩ : γ.wp = .reg ∧ (∀ k, k < γ.n → k ≠ i → (D k).s = .quit) ∧ WgAt ty wg w 0 0 := by
    have hmode := h.mode
    unfold Mode at hmode
    split at hmode <;> rename_i hwp
    · exact absurd hwp (h.notOff h1 h2)
    · have := hmode.1 i h2; rw [hs] at this; cases this
    · have := hmode.1 i h2; rw [hs] at this; cases this
    · rcases hmode with ⟨ho, _⟩ | ⟨l, _, hl, hq, _⟩ | ⟨l, _, hl, hq, hat⟩ | ⟨hq, _⟩
      · have := ho i h2; rw [hs] at this; cases this
      · exfalso
        by_cases e : i = l
        · subst e; rcases hl with hl | hl <;> rw [hs] at hl <;> cases hl
        · have := hq i h2 e; rw [hs] at this; cases this
      · by_cases e : i = l
        · subst e; exact ⟨hwp, hq, hat⟩
        · have := hq i h2 e; rw [hs] at this; cases this
      · have := hq i h2; rw [hs] at this; cases this
    · have := hmode.1 i h2; rw [hs] at this; cases this
  have hsem : ∀ e ∈ semEvents (smA wg), ∀ x, (MemAct.ofEvent e).touch? = some x → inB (· = wg) x.loc ∧ x.kind = .atomic := by
    intro e he x hx
    simp only [semEvents, List.mem_toArray, List.mem_cons, List.not_mem_nil, or_false] at he
    rcases he with rfl | rfl | rfl | rfl <;> simp [MemAct.ofEvent, MemAct.touch?] at hx <;> subst hx <;> exact ⟨⟨_, rfl, rfl⟩, rfl⟩
  refine turn_group h h1 h2 hgi hx sl hs (d := ⟨.quit, trOf q, (D i).O, 1⟩) (by unfold WD.rk; rw [hs]; exact .act) (hgo l3) (setCell_chg w (smA wg) _) ⟨q, rfl, hq⟩ rfl (by rw [hd]; rfl) ?_ (by rw [hs]; rfl) hsem (fun e he => ?_) (fun _ => ⟨r, ?_⟩) ?_ (by simp) (.inl ⟨hm, hrun⟩)
  · cases hmm : γ.m i <;> rw [hmm] at hf <;> first | exact hf | exact hf.elim
  · simp only [semEvents, List.mem_toArray, List.mem_cons, List.not_mem_nil, or_false] at he
    rcases he with rfl | rfl | rfl | rfl <;> simp
  · refine hr.own _ _ _ fun j e he a ha => ?_
    obtain ⟨e1, e2⟩ := hsem e (Array.mem_of_getElem? he) a ha
    refine ⟨e1, e2, ?_⟩
    rw [hdf, hd]
    have hj : j < 4 := (Array.getElem?_eq_some_iff.1 he).1
    match j, hj with
    | 0, _ => simp [semEvents, deafBehind]
    | 1, _ => simp [semEvents, deafBehind]
    | 2, _ => simp [semEvents, deafBehind]
    | 3, _ => simp [semEvents, deafBehind]
  · unfold Mode
    rw [l1]
    exact .inr (.inr (.inr ⟨quit_set rfl l2, l3.setSm 1⟩))
end

/-- It stands at its receive, and the starter waits with its send. -/
def MeetR (P : Program) (R : Nat → Prop) (N : Nat) (ty : TypeId) (wg : Nat) (γ : Gh) (w : World) (D : Nat → WD) (i : Nat) (g x0 : Goroutine) : Prop :=
  γ.base ≤ i ∧ ∃ j g₂ z, (D i).s = .run (.R j) ∧ stepG P false g w = .comm g₂ #[rcase (γ.K i).b z] true (.recv true) w #[] ∧ offersAt x0 (γ.K i).b true ≠ [] ∧ AtR P R N ty wg (γ.K i) (D i).τ j (D i).O g₂ z w
/-- It stands at its send, and the starter waits with its receive. -/
def MeetS (P : Program) (R : Nat → Prop) (N : Nat) (ty : TypeId) (wg : Nat) (γ : Gh) (w : World) (D : Nat → WD) (i : Nat) (g x0 : Goroutine) : Prop :=
  γ.base ≤ i ∧ ∃ p p' v g₂ z, (D i).s = .run p ∧ stepG P false g w = .comm g₂ #[scase (γ.K i).c v z] true .send w #[] ∧ offersAt x0 (γ.K i).c false ≠ [] ∧ AtS P R N ty wg (γ.K i) (D i).τ p p' v (D i).O g₂ z w

theorem quitsD_run {q d : Nat} {g : Goroutine} (h : QuitsD P q d g) (hr : g.status = .running) : ∃ q' g' es, q = q' + 1 ∧ (∀ e ∈ es, Event.mute e = true) ∧ (∀ w, stepG P false g w = .go g' w es) ∧ QuitsD P q' (deafBehind d es) g' := by
  cases q with
  | zero => rw [h.1] at hr; cases hr
  | succ q =>
    rcases h with ⟨e, _⟩ | ⟨_, g', es, h1, h2, h3⟩
    · rw [e] at hr; cases hr
    · exact ⟨q, g', es, rfl, h1, h2, h3⟩

theorem mute_touch {e : Event} (h : e.mute = true) : (MemAct.ofEvent e).touch? = none ∧ e.loc ≠ .mark (.release (stA wg)) := by
  obtain ⟨loc, wr, sy⟩ := e
  unfold Event.mute at h
  split at h
  · rename_i e; cases e; exact ⟨rfl, by simp⟩
  · rename_i e; cases e; exact ⟨rfl, by simp⟩
  · cases h

/-- WHATEVER STEP A WORKER TAKES. -/
theorem workerStep (h : Conf P R N ty wg Sh γ O gs w t D) {i : Nat} (h1 : 1 ≤ i) (h2 : i < γ.n) {g x0 : Goroutine} (hgi : gs[i]? = some g) (hr : g.status = .running) (hx : gs[0]? = some x0) (sl : Option (Nat × Nat)) :
    Prog P R N ty wg Sh γ O gs w sl t D i x0 ∨ MeetR P R N ty wg γ w D i g x0 ∨ MeetS P R N ty wg γ w D i g x0 := by
  obtain ⟨g', hg', hs, hdf⟩ := h.wk i h1 h2
  rw [hgi] at hg'
  cases hg'
  cases hsi : (D i).s with
  | pr j =>
    unfold WSit at hs
    rw [hsi] at hs
    obtain ⟨⟨g₂, z, rfl, _⟩, _⟩ := hs
    cases hr
  | ps p =>
    unfold WSit at hs
    rw [hsi] at hs
    obtain ⟨⟨g₂, z, p', v, rfl, _⟩, _⟩ := hs
    cases hr
  | quit =>
    left
    unfold WSit at hs
    rw [hsi] at hs
    obtain ⟨q, hτ, hq⟩ := hs
    obtain ⟨q', g', es, rfl, hes, hgo, hq'⟩ := quitsD_run hq hr
    have hOw : OwF O (setD D i ⟨.quit, trOf q', (D i).O, deafBehind (D i).d es⟩) = OwF O D := by
      funext k
      unfold OwF
      split
      · rfl
      · by_cases e : k = i
        · subst e; rw [setD_same]
        · rw [setD_ne D _ e]
    have hu : ∀ op ∈ MemOp.ofEvents i g.frame.fn g.frame.place es, op.g = i ∧ op.act.touch? = none := fun op hop => by
      obtain ⟨e, he, rfl⟩ := mem_ofEvents hop
      exact ⟨rfl, (mute_touch (wg := wg) (hes e he)).1⟩
    have hug : ∀ op ∈ MemOp.ofEvents i g.frame.fn g.frame.place es, op.g = i := fun op hop => (hu op hop).1
    have ss : ∀ k, ((setD D i ⟨.quit, trOf q', (D i).O, deafBehind (D i).d es⟩) k).s = (D k).s := fun k => by
      by_cases e : k = i
      · subst e; rw [setD_same, hsi]
      · rw [setD_ne D _ e]
    refine prog_own h (d := ⟨.quit, trOf q', (D i).O, deafBehind (D i).d es⟩) (S := fun _ => False) h1 h2 hgi hx (hgo w) (Chg.refl _ w) (fun _ hb => hb.elim) (fun _ hb => hb.elim) ?_ (by
      unfold WD.rk
      rw [hsi, hτ]
      exact .tr (.mk (fun _ : Unit => trOf q') ())) (by simp) (.inr (.inr (.inl hsi)))
    refine h.next (i := i) (S := fun _ => False) rfl rfl rfl id id (by simp) (fun k k1 k2 hki => ?_) (fun k hk => setD_ne D _ hk) (fun e => by omega) (fun _ => rfl) (Chg.refl _ w) (fun _ hb => hb.elim) (fun _ _ _ _ _ hb => hb.elim)
      (fun _ _ => ⟨g', by rw [Array.getElem?_setIfInBounds_self_of_lt (by simp [h.size]; omega)], by rw [setD_same]; exact ⟨q', rfl, hq'⟩, by rw [setD_same, Deaf_own, hdf]⟩) (fun _ _ => by rw [setD_same])
      (fun k k1 k2 hki => Deaf_other t (fun e => hki e.symm) _ hug) (by rw [Deaf_other t (by omega) _ hug]; exact h.deaf0)
      (fun k k1 k2 => by rw [ss]; exact h.fit k k1 k2) (fun k k1 k2 => h.chb k k1 k2) (fun k k1 k2 => by rw [ss]; exact h.chc k k1 k2) (fun b hb => .inl (by rw [hOw] at hb; exact hb)) (by
        rw [hOw]
        exact h.ti.idle fun op hop => ⟨by rw [(hu op hop).1]; exact h2, (hu op hop).2⟩) (fun hw => (h.norel hw).app fun op hop e => ?_) (fun k k1 k2 hr => ?_) (fun ha => ?_) (h.mode.congr ss rfl)
    · obtain ⟨x, hx, _⟩ := h.wk k k1 k2
      rw [Array.getElem?_setIfInBounds_ne (fun e => hki e.symm), Array.getElem?_map, hx, Option.map_some, h.still k1 k2 hx (fun _ => ⟨rfl, rfl⟩) g g']
    · obtain ⟨e', he', rfl⟩ := mem_ofEvents hop
      have := (mute_touch (wg := wg) (hes e' he')).2
      obtain ⟨loc, wr, sy⟩ := e'
      cases loc with
      | mark m => exact this (by simpa [MemAct.ofEvent] using e)
      | obj c => cases wr <;> cases sy <;> simp [MemAct.ofEvent] at e
      | _ => simp [MemAct.ofEvent] at e
    · rw [ss] at hr
      obtain ⟨r, hr⟩ := h.rel k k1 k2 hr
      exact ⟨r, hr.idle fun op hop _ => (hu op hop).2⟩
    · obtain ⟨hf, hq⟩ := h.acq ha
      exact ⟨hf, acqApp hq fun k r _ _ hr => hr.idle fun op hop _ => (hu op hop).2⟩
  | run p =>
    have hb := h.actOf h1 h2 (by rw [hsi]; simp)
    unfold WSit at hs
    rw [hsi] at hs
    obtain ⟨hW, hd⟩ := hs
    have hnoff := h.notOff hb h2
    have iw0 : IW N (D i).O ty wg w w := ⟨Rl.refl _ _ _, h.sz, h.mode.live hnoff⟩
    cases hτ : (D i).τ with
    | node I f =>
      rw [hτ] at hW
      have lt : ∀ i', Tr.Lt (f i') (D i).τ := fun i' => by rw [hτ]; exact .mk f i'
      have hW0 := hW
      obtain ⟨_, hW⟩ := hW
      rcases hW with hW | ⟨j, g₂, z, e, same, hc, hh1, hh0⟩ | ⟨v, p', g₂, z, e, hc, hh⟩ | ⟨e, hW⟩ | ⟨e, hW⟩ | ⟨e, hW⟩ | ⟨e, hW⟩ | ⟨e, hW⟩ | ⟨e, hW⟩ | ⟨e, hm, hW⟩
      · left
        obtain ⟨i', g', w', es, hgo, hk, hes, hτ'⟩ := hW w iw0
        exact turn_silent h hb h2 hgi hx sl hsi (lt i') hd hgo hk hes hτ'
      · subst e
        have hA : AtR P R N ty wg (γ.K i) (D i).τ j (D i).O g₂ z w := ⟨⟨.node I f, rfl, .inr (.inl ⟨j, g₂, z, rfl, fun w₁ cs sh => rfl, fun w₁ h₁ => (same w₁ _ _).trans (hc w₁ h₁), hh1, hh0⟩)⟩,
          fun w₁ v hl h₁ => let ⟨i', x⟩ := hh1 w₁ v hl h₁; ⟨_, lt i', x⟩, fun w₁ h₁ => let ⟨i', x⟩ := hh0 w₁ h₁; ⟨_, lt i', x⟩⟩
        by_cases ho : offersAt x0 (γ.K i).b true = []
        · left
          exact turn_recv h hb h2 hgi hx sl hsi hd (hc w iw0) (fun w₁ h₁ => let ⟨i', x⟩ := hh0 w₁ h₁; ⟨_, lt i', x⟩) hA ho
        · exact .inr (.inl ⟨hb, j, g₂, z, hsi, hc w iw0, ho, hA⟩)
      · have hA : AtS P R N ty wg (γ.K i) (D i).τ p p' v (D i).O g₂ z w := ⟨e, fun w₁ h₁ => let ⟨i', x⟩ := hh w₁ h₁; ⟨_, lt i', x⟩⟩
        by_cases ho : offersAt x0 (γ.K i).c false = []
        · left
          exact turn_send h hb h2 hgi hx sl hsi e hd (hc w iw0) hA ho
        · exact .inr (.inr ⟨hb, p, p', v, g₂, z, hsi, hc w iw0, ho, hA⟩)
      · left
        subst e
        obtain ⟨s, r, hcc⟩ := h.chc i hb h2
        rw [hsi] at hcc
        obtain ⟨i', g', es, hgo, hes, hτ'⟩ := hW w s r (by
          have a1 := (h.chO i hb h2 i (.inr ⟨hb, h2⟩)).2
          rw [OwF_pos (by have := h.base1; omega)] at a1
          exact ⟨a1, (h.chN i hb h2).2.1, (h.chN i hb h2).2.2.2⟩) iw0 hcc
        exact turn_close h hb h2 hgi hx sl hsi hd (lt i') hgo hcc hes hτ'
      · left
        subst e
        obtain ⟨i', g', hgo, hτ'⟩ := hW w iw0
        exact turn_rel h hb h2 hgi hx sl hsi hd (lt i') hgo hτ'
      · left
        subst e
        obtain ⟨i', g', hgo, hτ'⟩ := hW w iw0
        exact turn_dis h hb h2 hgi hx sl hsi hd (lt i') hgo hτ'
      · left
        subst e
        exact turn_add h hb h2 hgi hx sl hsi hd hτ fun v wt a b c => hW w v wt iw0 a b c
      · left
        subst e
        obtain ⟨i', g', hgo, hτ'⟩ := hW w iw0 (lastOne h hb h2 hgi hx (.inl hsi)).2.2
        exact turn_ld h hb h2 hgi hx sl hsi hd (lt i') hgo hτ'
      · left
        subst e
        obtain ⟨i', g', hgo, hτ'⟩ := hW w iw0 (lastOne h hb h2 hgi hx (.inr hsi)).2.2
        exact turn_st h hb h2 hgi hx sl hsi hd (lt i') hgo hτ'
      · left
        subst e
        by_cases hat : WgAt ty wg w 0 0
        · obtain ⟨g', hgo, q, hq⟩ := hW w iw0 hat
          refine turn_sem h hb h2 hgi hx sl hsi hd hm (fun _ => hgo) hq ?_
          rcases hq.status with e | e
          · exact e
          · exfalso
            cases q with
            | zero => have := hq.2; omega
            | succ q => rcases hq with ⟨_, e'⟩ | ⟨e', _⟩
                        · omega
                        · rw [e] at e'; cases e'
        · exfalso
          have hmode := h.mode
          unfold Mode at hmode
          split at hmode <;> rename_i hwp
          · exact hnoff hwp
          · have := hmode.1 i h2; rw [hsi] at this; cases this
          · have := hmode.1 i h2; rw [hsi] at this; cases this
          · rcases hmode with ⟨ho, _⟩ | ⟨l, _, hl, hq, _⟩ | ⟨l, _, hl, hq, ha⟩ | ⟨hq, _⟩
            · have := ho i h2; rw [hsi] at this; cases this
            · by_cases e : i = l
              · subst e; rcases hl with hl | hl <;> rw [hsi] at hl <;> cases hl
              · have := hq i h2 e; rw [hsi] at this; cases this
            · exact hat ha
            · have := hq i h2; rw [hsi] at this; cases this
          · have := hmode.1 i h2; rw [hsi] at this; cases this
end
end Go.Proofs.Ytnmhgfeglfcbgaa
