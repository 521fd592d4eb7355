/-
  Proved here: WHATEVER STEP A WORKER TAKES.
  Conditions: none beyond the law's own.
-/
import Derived.Test.YtnmhgfeglfcbgaaTurn
namespace Go.Proofs.Ytnmhgfeglfcbgaa
open Go.Conc
open Go.ConcR (KK wgBlock WgAt stA smA rd wr DC0)
open Go.ConcN (WgLive sumTo)

section
variable {P : Program} {R : Nat → Prop} {N : Nat} {ty : TypeId} {wg : Nat} {Sh : Nat → Prop} {γ γ' : Gh} {O O' : Nat → Prop} {gs gs' : Array Goroutine} {w w' : World} {t u : Trace} {D D' : Nat → WD}

theorem deafBehind_none {d : Nat} {es : Array Event} (h : ∀ e ∈ es, e.loc ≠ .mark .disable ∧ e.loc ≠ .mark .enable) : deafBehind d es = d := by
  obtain ⟨l⟩ := es
  unfold deafBehind
  simp only [List.foldl_toArray']
  have : ∀ e ∈ l, e.loc ≠ .mark .disable ∧ e.loc ≠ .mark .enable := fun e he => h e (by simpa using he)
  clear h
  induction l generalizing d with
  | nil => rfl
  | cons x l ih =>
    have hx := this x (by simp)
    rw [List.foldl_cons]
    have e : (match x.loc with | .mark .disable => d + 1 | .mark .enable => d - 1 | _ => d) = d := by
      split
      · exact absurd ‹_› hx.1
      · exact absurd ‹_› hx.2
      · rfl
    exact (congrArg (fun z => List.foldl _ z l) e).trans (ih fun e he => this e (by simp [he]))

theorem EvOk.noMark {R O : Nat → Prop} {w w' : World} {e : Event} (h : EvOk R O w w' e) : e.loc ≠ .mark .disable ∧ e.loc ≠ .mark .enable ∧ ∀ a, e.loc ≠ .mark (.release a) := by
  rcases h with ⟨a, h1, _⟩ | ⟨m, rfl, h2⟩
  · rw [h1]; exact ⟨by simp, by simp, by simp⟩
  · refine ⟨fun e => ?_, fun e => ?_, fun a e => ?_⟩
    · exact h2.ne_disable (by simpa using e)
    · exact h2.ne_enable (by simpa using e)
    · unfold Neutral at h2
      simp only [Loc.mark.injEq] at e
      rw [e] at h2
      cases h2

theorem EvX.ok {O : Nat → Prop} {e : Event} (h : EvX R O wg w w' e) (hw : Sh wg) (g : Nat) (fn : FuncId) (pos : String) : OkG g w.heap.size w'.heap.size O R Sh { g, fn, pos, act := .ofEvent e } := by
  rcases h with h | ⟨h, _⟩
  · exact h.ok g fn pos Sh
  · refine ⟨rfl, fun x hx => .inl ?_⟩
    obtain ⟨⟨a, e1, e2⟩, h2, h3⟩ := h x hx
    exact ⟨⟨a, e1, by rw [e2]; exact hw⟩, h2, fun e => absurd e h3⟩
theorem EvX.noMark {O : Nat → Prop} {e : Event} (h : EvX R O wg w w' e) : e.loc ≠ .mark .disable ∧ e.loc ≠ .mark .enable ∧ e.loc ≠ .mark (.release (stA wg)) := by
  rcases h with h | ⟨_, h⟩
  · exact ⟨h.noMark.1, h.noMark.2.1, h.noMark.2.2 _⟩
  · exact h

theorem Mode.congr (h : Mode ty wg γ D w) (hs : ∀ k, (D' k).s = (D k).s) (hw : w'.heap[wg]? = w.heap[wg]?) : Mode ty wg γ D' w' := by
  have hat : ∀ st sm, WgAt ty wg w st sm → WgAt ty wg w' st sm := fun st sm h => h.of_block hw
  have hc : cntTo γ.n D' = cntTo γ.n D := ConcN.sumTo_congr fun k _ => by rw [hs]
  unfold Mode at h ⊢
  simp only [hs, hc]
  split at h
  · trivial
  · exact ⟨h.1, hat _ _ h.2.1, h.2.2⟩
  · exact ⟨h.1, hat _ _ h.2.1, h.2.2⟩
  · rcases h with h | ⟨l, a1, a2, a3, a4⟩ | ⟨l, a1, a2, a3, a4⟩ | h
    · exact .inl ⟨h.1, h.2.1, hat _ _ h.2.2⟩
    · exact .inr (.inl ⟨l, a1, a2, a3, hat _ _ a4⟩)
    · exact .inr (.inr (.inl ⟨l, a1, a2, a3, hat _ _ a4⟩))
    · exact .inr (.inr (.inr ⟨h.1, hat _ _ h.2⟩))
  · exact ⟨h.1, hat _ _ h.2⟩

theorem Conf.acqQuit (h : Conf P R N ty wg Sh γ O gs w t D) (ha : γ.acq = true) {i : Nat} (hi : i < γ.n) : (D i).s = .quit := by
  have hf := (h.acq ha).1
  have hm := h.mode
  unfold Mode at hm
  rw [hf] at hm
  exact hm.1 i hi

theorem Conf.chanOf (h : Conf P R N ty wg Sh γ O gs w t D) {i : Nat} (h1 : γ.base ≤ i) (h2 : i < γ.n) {S : Nat → Prop} (hc : Chg S w w') (_hs : Sc N wg γ O D i S) (hn : ¬ S (γ.K i).c) : w'.heap[(γ.K i).c]? = w.heap[(γ.K i).c]? := by
  obtain ⟨s, r, e⟩ := h.chc i h1 h2
  exact hc.block _ (Array.getElem?_eq_some_iff.1 e).1 hn

theorem Conf.wgOf (h : Conf P R N ty wg Sh γ O gs w t D) (hw : γ.wp ≠ .off) {S : Nat → Prop} (hc : Chg S w w') (hn : ¬ S wg) : w'.heap[wg]? = w.heap[wg]? := by
  obtain ⟨st, sm, hl⟩ := h.mode.live hw
  exact hc.block _ (Array.getElem?_eq_some_iff.1 hl).1 hn

theorem setCell_chg (w : World) (a : Addr) (v : Value) : Chg (· = a.block) w (w.setCell a v) := by
  refine ⟨rfl, rfl, rfl, by simp [World.setCell], fun k _ hk => ?_⟩
  simp only [World.setCell]
  rw [Array.getElem?_modify, if_neg (fun e => hk e.symm)]

theorem rd_touch {a : Addr} {x : Touch} (h : (MemAct.ofEvent (rd a)).touch? = some x) : x.loc = .cell a ∧ x.kind = .atomic := by
  simp [rd, MemAct.ofEvent, MemAct.touch?] at h; subst h; exact ⟨rfl, rfl⟩
theorem wr_touch {a : Addr} {x : Touch} (h : (MemAct.ofEvent (wr a)).touch? = some x) : x.loc = .cell a ∧ x.kind = .atomic := by
  simp [wr, MemAct.ofEvent, MemAct.touch?] at h; subst h; exact ⟨rfl, rfl⟩

/-- A step on the group's cells. -/
theorem grp_ok {es : Array Event} (hes : ∀ e ∈ es, ∀ x, (MemAct.ofEvent e).touch? = some x → inB (· = wg) x.loc ∧ x.kind = .atomic) (hw : Sh wg) (g : Nat) (fn : FuncId) (pos : String) (O : Nat → Prop) (n n' : Nat) :
    ∀ op ∈ MemOp.ofEvents g fn pos es, OkG g n n' O R Sh op := fun op hop => by
  obtain ⟨e, he, rfl⟩ := mem_ofEvents hop
  refine ⟨rfl, fun x hx => .inl ?_⟩
  obtain ⟨⟨a, e1, e2⟩, e3⟩ := hes e he x hx
  exact ⟨⟨a, e1, by rw [e2]; exact hw⟩, by rw [e3]; simp, fun e => by rw [e3] at e; cases e⟩

section
variable (h : Conf P R N ty wg Sh γ O gs w t D) {i : Nat} (h1 : γ.base ≤ i) (h2 : i < γ.n) {g x0 : Goroutine} (hgi : gs[i]? = some g) (hx : gs[0]? = some x0) (sl : Option (Nat × Nat))
include h h1 h2 hgi hx

theorem turn_silent {p : Ph} (hs : (D i).s = .run p) {τ' : Tr} {g' : Goroutine} {es : Array Event} (hlt : Tr.Lt τ' (D i).τ) (hd : (D i).d = p.deaf)
    (hgo : stepG P false g w = .go g' w' es) (hk : KeptX R (D i).O wg w w' es) (hes : p.rel = true → es = #[]) (hW : WGo P R N ty wg (γ.K i) τ' p (growO (D i).O w w') g' w') :
    Prog P R N ty wg Sh γ O gs w sl t D i x0 := by
  have hb1 := h.base1
  have hAc : Ac γ i := .inr ⟨h1, h2⟩
  have hsc := h.scOwn hAc
  rw [OwF_pos (show 1 ≤ i by omega)] at hsc
  have hchg : Chg (D i).O w w' := ⟨hk.os, hk.tape, hk.output, hk.size, hk.block⟩
  have hnoff := h.notOff h1 h2
  have hnwg : ¬ (D i).O wg := fun e => h.ap.ownSh i wg hAc (by rw [OwF_pos (by omega)]; exact e) (h.shw hnoff).1
  have hnc : ¬ (D i).O (γ.K i).c := by have := (h.chO i h1 h2 i hAc).2; rwa [OwF_pos (by omega)] at this
  refine prog_own h (d := ⟨.run p, τ', growO (D i).O w w', (D i).d⟩) (by omega) h2 hgi hx hgo hchg hsc.N (fun b hb => hsc.d 0 (.inl rfl) (by omega) b hb) ?_ ?_ (by simp) (.inr (.inl (by simp)))
  · refine h.stepW (S := (D i).O) h1 h2 hgi hsc hchg ⟨hW, hd⟩ (deafBehind_none fun e he => ⟨(hk.evs e he).noMark.1, (hk.evs e he).noMark.2.1⟩) ?_ ?_ (fun b hb => hb) (fun op hop => ?_) (fun e he => (hk.evs e he).noMark.2.2) (fun hr => ?_) (fun ha => ?_) ?_
    · have := h.fit i h1 h2; rwa [hs] at this
    · have := h.chc i h1 h2; rw [hs] at this
      obtain ⟨s, r, e⟩ := this
      exact ⟨s, r, (h.chanOf h1 h2 hchg hsc hnc).trans e⟩
    · obtain ⟨e, he, rfl⟩ := mem_ofEvents hop
      exact (hk.evs e he).ok (h.shw hnoff).1 i _ _
    · obtain ⟨r, hr'⟩ := h.rel i h1 h2 (by rw [hs]; exact hr)
      exact ⟨r, hr'.idle fun op hop _ => by rw [hes hr] at hop; simp [MemOp.ofEvents] at hop⟩
    · have := h.acqQuit ha h2; rw [hs] at this; cases this
    · refine h.mode.congr (fun k => ?_) (h.wgOf hnoff hchg hnwg)
      by_cases e : k = i
      · subst e; rw [setD_same, hs]
      · rw [setD_ne D _ e]
  · unfold WD.rk
    rw [hs]
    exact .tr hlt

/-- A step on the group, or one that only says a word. -/
theorem turn_group {p : Ph} (hs : (D i).s = .run p) {d : WD} {g' : Goroutine} {es : Array Event} (hrk : Rk.Lt d.rk (D i).rk) (hgo : stepG P false g w = .go g' w' es) (hchg : Chg (· = wg) w w')
    (hsit : WSit P R N ty wg (γ.K i) d g' w') (hdO : d.O = (D i).O) (hdeaf : deafBehind (D i).d es = d.d) (hfit : fits (γ.m i) d.s) (hcl : d.s.shutC = (D i).s.shutC)
    (hes : ∀ e ∈ es, ∀ x, (MemAct.ofEvent e).touch? = some x → inB (· = wg) x.loc ∧ x.kind = .atomic) (hnr : ∀ e ∈ es, e.loc ≠ .mark (.release (stA wg)))
    (hrel : d.s.rel = true → ∃ r, RelB wg (t ++ MemOp.ofEvents i g.frame.fn g.frame.place es) i r) (hmode : Mode ty wg γ (setD D i d) w') (hnp : (∀ j, d.s ≠ .pr j) ∧ ∀ p, d.s ≠ .ps p)
    (hq : (mayWake P g = true ∧ g'.status = .running) ∨ d.s ≠ .quit ∨ (D i).s = .quit ∨ γ.wp ≠ .reg ∨ ∃ k, k < γ.n ∧ k ≠ i ∧ (D k).s ≠ .quit) : Prog P R N ty wg Sh γ O gs w sl t D i x0 := by
  have hb1 := h.base1
  have hAc : Ac γ i := .inr ⟨h1, h2⟩
  have hnoff := h.notOff h1 h2
  have hsc := h.scWg hnoff i
  refine prog_own h (d := d) (by omega) h2 hgi hx hgo hchg hsc.N (fun b hb => hsc.d 0 (.inl rfl) (by omega) b hb) ?_ hrk hnp hq
  refine h.stepW (S := (· = wg)) h1 h2 hgi hsc hchg hsit hdeaf hfit ?_ (fun b hb => .inl (by rw [← hdO]; exact hb)) (grp_ok hes (h.shw hnoff).1 i _ _ _ _ _) hnr hrel (fun ha => ?_) hmode
  · obtain ⟨s, r, e⟩ := h.chc i h1 h2
    rw [hcl]
    exact ⟨s, r, (h.chanOf h1 h2 hchg hsc (h.chN i h1 h2).2.2.2).trans e⟩
  · have := h.acqQuit ha h2; rw [hs] at this; cases this

theorem turn_recv {j : Nat} (hs : (D i).s = .run (.R j)) (hd : (D i).d = 0) {g₂ : Goroutine} {z : Value} (hc : stepG P false g w = .comm g₂ #[rcase (γ.K i).b z] true (.recv true) w #[])
    (h0 : ∀ w₁, IW N (D i).O ty wg w w₁ → ∃ τ', Tr.Lt τ' (D i).τ ∧ WGo P R N ty wg (γ.K i) τ' (.F j) (D i).O (Conc.served g₂ (recvd true z false)) w₁)
    (hA : AtR P R N ty wg (γ.K i) (D i).τ j (D i).O g₂ z w) (hno : offersAt x0 (γ.K i).b true = []) : Prog P R N ty wg Sh γ O gs w sl t D i x0 := by
  have hb1 := h.base1
  have hnoff := h.notOff h1 h2
  have hp := h.noSend h1 h2 hx hno
  have hi0 : stepG P (i == 0) g w = .comm g₂ #[rcase (γ.K i).b z] true (.recv true) w #[] := by rw [show (i == 0) = false by simp; omega]; exact hc
  have iw0 : IW N (D i).O ty wg w w := ⟨Rl.refl _ _ _, h.sz, h.mode.live hnoff⟩
  obtain ⟨s, r, hcb⟩ := h.chb i h1 h2
  have hf := h.fit i h1 h2
  rw [hs] at hf
  have hcc := h.chc i h1 h2
  rw [hs] at hcc
  have hγ : ∀ m', m' = γ.m i → γ.set i m' = γ := fun m' e => by
    subst e
    unfold Gh.set
    congr 1
    funext k
    split
    · rename_i e; rw [e]
    · rfl
  have size_i : i < gs.size := by rw [h.size]; exact h2
  cases hm : (γ.m i).shutB with
  | true =>
    rw [hm] at hcb
    obtain ⟨τ', hlt, hτ⟩ := h0 w iw0
    have hrun := crowd_recv_closed (P := P) (sl := sl) hgi hi0 hcb hp
    rw [finishComm_recv] at hrun
    have hcomm := h.comm (gs' := gs.setIfInBounds i (Conc.served g₂ (recvd true z false))) (w' := w) (u := MemOp.ofEvents i g.frame.fn g.frame.place #[] ++ #[{ g := i, fn := g₂.frame.fn, pos := g₂.frame.place, act := .recvClosed (γ.K i).b }]) (m' := γ.m i)
      (d := ⟨.run (.F j), τ', (D i).O, 0⟩) (S := fun _ => False) h1 h2 (by simp) (fun k _ _ hk => by rw [Array.getElem?_setIfInBounds_ne (fun e => hk e.symm)]) (Array.getElem?_setIfInBounds_self_of_lt size_i)
      (Chg.refl _ w) (fun b hb => hb.elim) rfl ⟨hτ, rfl⟩ rfl hd.symm (by
        cases hmm : γ.m i <;> rw [hmm] at hf hm <;> first | exact hf | exact hf.elim | cases hm) ⟨s, r, by rw [hm]; exact hcb⟩ hcc (fun op hop => by
        simp [MemOp.ofEvents] at hop; subst hop; exact ⟨h2, rfl, fun m => by simp⟩) rfl (by rw [hs]; rfl) rfl
    rw [hγ _ rfl] at hcomm
    refine ⟨_, w, _, _, hrun, hcomm, rl_set h2 (by unfold WD.rk; rw [hs]; exact .tr hlt), Rl.refl _ _ _, fun k hk => setD_ne D _ hk, fun _ _ => hno, (fun p e => by rw [setD_same] at e; cases e), x0, by rw [Array.getElem?_setIfInBounds_ne (by omega)]; exact hx, .inr ⟨rfl, fun _ _ => ⟨i, h2, by rw [setD_same]; simp⟩⟩⟩
  | false =>
    rw [hm] at hcb
    have hrun := crowd_waits (P := P) (sl := sl) hgi hi0 (fun cc hcc => by
      have : cc = rcase (γ.K i).b z := by simpa using hcc
      rw [this]; exact ways_recv_none hcb hp)
    have hcomm := h.comm (gs' := gs.setIfInBounds i (parked g₂ #[rcase (γ.K i).b z] (.recv true))) (w' := w) (u := MemOp.ofEvents i g.frame.fn g.frame.place #[]) (m' := γ.m i)
      (d := ⟨.pr j, (D i).τ, (D i).O, 0⟩) (S := fun _ => False) h1 h2 (by simp) (fun k _ _ hk => by rw [Array.getElem?_setIfInBounds_ne (fun e => hk e.symm)]) (Array.getElem?_setIfInBounds_self_of_lt size_i)
      (Chg.refl _ w) (fun b hb => hb.elim) rfl ⟨⟨g₂, z, rfl, hA⟩, rfl⟩ rfl hd.symm (by
        cases hmm : γ.m i <;> rw [hmm] at hf hm <;> first | exact hf | exact hf.elim | cases hm) ⟨s, r, by rw [hm]; exact hcb⟩ hcc (fun op hop => by simp [MemOp.ofEvents] at hop) rfl (by rw [hs]; rfl) rfl
    rw [hγ _ rfl] at hcomm
    refine ⟨_, w, _, _, hrun, hcomm, rl_set h2 (by unfold WD.rk; rw [hs]; exact .fl), Rl.refl _ _ _, fun k hk => setD_ne D _ hk, fun _ _ => hno, (fun p e => by rw [setD_same] at e; cases e), x0, by rw [Array.getElem?_setIfInBounds_ne (by omega)]; exact hx, .inr ⟨rfl, fun _ _ => ⟨i, h2, by rw [setD_same]; simp⟩⟩⟩

theorem turn_send {p p' : Ph} {v : Value} (hs : (D i).s = .run p) (hps : p.sends (γ.K i) = some (v, p')) (hd : (D i).d = p.deaf) {g₂ : Goroutine} {z : Value} (hc : stepG P false g w = .comm g₂ #[scase (γ.K i).c v z] true .send w #[])
    (hA : AtS P R N ty wg (γ.K i) (D i).τ p p' v (D i).O g₂ z w) (hno : offersAt x0 (γ.K i).c false = []) : Prog P R N ty wg Sh γ O gs w sl t D i x0 := by
  have hb1 := h.base1
  have hp := h.noRecv h1 h2 hx hno
  have hi0 : stepG P (i == 0) g w = .comm g₂ #[scase (γ.K i).c v z] true .send w #[] := by rw [show (i == 0) = false by simp; omega]; exact hc
  obtain ⟨s, r, hcc⟩ := h.chc i h1 h2
  rw [hs] at hcc
  have hcl : (WSt.run p).shutC = false := by
    cases p <;> simp [Ph.sends] at hps <;> rfl
  rw [hcl] at hcc
  have hf := h.fit i h1 h2
  rw [hs] at hf
  have hγ : γ.set i (γ.m i) = γ := by
    unfold Gh.set
    congr 1
    funext k
    split
    · rename_i e; rw [e]
    · rfl
  have size_i : i < gs.size := by rw [h.size]; exact h2
  have hrun := crowd_waits (P := P) (sl := sl) hgi hi0 (fun cc hcc' => by
    have : cc = scase (γ.K i).c v z := by simpa using hcc'
    rw [this]; exact ways_send_none hcc (Nat.zero_le _) hp)
  have hcomm := h.comm (gs' := gs.setIfInBounds i (parked g₂ #[scase (γ.K i).c v z] .send)) (w' := w) (u := MemOp.ofEvents i g.frame.fn g.frame.place #[]) (m' := γ.m i)
    (d := ⟨.ps p, (D i).τ, (D i).O, 0⟩) (S := fun _ => False) h1 h2 (by simp) (fun k _ _ hk => by rw [Array.getElem?_setIfInBounds_ne (fun e => hk e.symm)]) (Array.getElem?_setIfInBounds_self_of_lt size_i)
    (Chg.refl _ w) (fun b hb => hb.elim) rfl ⟨⟨g₂, z, p', v, rfl, hA⟩, rfl⟩ rfl (by rw [hd]; cases p <;> simp [Ph.sends] at hps <;> rfl) (by
      cases p <;> simp [Ph.sends] at hps <;> (cases hmm : γ.m i <;> rw [hmm] at hf <;> first | exact hf | exact hf.elim)) (h.chb i h1 h2) ⟨s, r, hcc⟩ (fun op hop => by simp [MemOp.ofEvents] at hop) rfl (by rw [hs]; cases p <;> simp [Ph.sends] at hps <;> rfl) rfl
  rw [hγ] at hcomm
  refine ⟨_, w, _, _, hrun, hcomm, rl_set h2 (by unfold WD.rk; rw [hs]; exact .fl), Rl.refl _ _ _, fun k hk => setD_ne D _ hk, (fun j e => by rw [setD_same] at e; cases e), fun _ _ => hno, x0, by rw [Array.getElem?_setIfInBounds_ne (by omega)]; exact hx, .inr ⟨rfl, fun _ _ => ⟨i, h2, by rw [setD_same]; simp⟩⟩⟩

theorem turn_close (hs : (D i).s = .run .C) (hd : (D i).d = 0) {τ' : Tr} {g' : Goroutine} {es : Array Event} {s r : Nat} (hlt : Tr.Lt τ' (D i).τ)
    (hgo : stepG P false g w = .go g' (w.setChan (γ.K i).c 0 #[] true s r false) es) (hcc : w.heap[(γ.K i).c]? = some (.chan 0 #[] false s r false))
    (hes : ∀ e ∈ es, e = ⟨.obj (γ.K i).c, false, true⟩ ∨ e = ⟨.obj (γ.K i).c, true, true⟩) (hW : WGo P R N ty wg (γ.K i) τ' .D0 (D i).O g' (w.setChan (γ.K i).c 0 #[] true s r false)) : Prog P R N ty wg Sh γ O gs w sl t D i x0 := by
  have hb1 := h.base1
  have hsc := h.scChan h1 h2
  have hnoff := h.notOff h1 h2
  have hlt' : (γ.K i).c < w.heap.size := (Array.getElem?_eq_some_iff.1 hcc).1
  have hchg : Chg (· = (γ.K i).c) w (w.setChan (γ.K i).c 0 #[] true s r false) := ⟨rfl, rfl, rfl, by rw [setChan_size]; exact Nat.le_refl _, fun k _ hk => setChan_old hk⟩
  have hf := h.fit i h1 h2
  rw [hs] at hf
  refine prog_own h (d := ⟨.run .D0, τ', (D i).O, 0⟩) (by omega) h2 hgi hx hgo hchg hsc.N (fun b hb => hsc.d 0 (.inl rfl) (by omega) b hb) ?_ ?_ (by simp) (.inr (.inl (by simp)))
  · refine h.stepW (S := (· = (γ.K i).c)) h1 h2 hgi hsc hchg ⟨hW, rfl⟩ ?_ ?_ ⟨s, r, setChan_self hlt'⟩ (fun b hb => .inl hb) (fun op hop => ?_) (fun e he => ?_) (fun hr => by cases hr) (fun ha => ?_) ?_
    · rw [hd]
      exact deafBehind_none fun e he => by rcases hes e he with rfl | rfl <;> simp
    · cases hmm : γ.m i <;> rw [hmm] at hf <;> first | exact hf | exact hf.elim
    · obtain ⟨e, he, rfl⟩ := mem_ofEvents hop
      refine ⟨rfl, fun x hx => ?_⟩
      rcases hes e he with rfl | rfl
      · simp [MemAct.ofEvent, MemAct.touch?] at hx
        subst hx
        exact .inr (.inr (.inr ⟨fun ad => by simp, rfl⟩))
      · simp [MemAct.ofEvent, MemAct.touch?] at hx
    · rcases hes e he with rfl | rfl <;> simp
    · have := h.acqQuit ha h2; rw [hs] at this; cases this
    · exact h.mode.same h2 (by rw [hs]; rfl) rfl (setChan_old (fun e => (h.chN i h1 h2).2.2.2 e.symm))
  · unfold WD.rk
    rw [hs]
    exact .tr hlt
end
end
end Go.Proofs.Ytnmhgfeglfcbgaa
