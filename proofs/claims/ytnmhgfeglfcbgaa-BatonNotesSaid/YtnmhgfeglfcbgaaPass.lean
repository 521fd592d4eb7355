/-
  Proved here: the starter waits at the group's semaphore; it gives a turn; it takes an answer.
  Conditions: none beyond each law's own.
-/
import Derived.Test.YtnmhgfeglfcbgaaDeal
namespace Go.Proofs.Ytnmhgfeglfcbgaa
open Go.Conc
open Go.ConcR (KK wgBlock WgAt stA smA rd wr DC0)
open Go.ConcN (WgLive sumTo)

section
variable {P : Program} {Post : Value → World → Prop} {R : Nat → Prop} {N : Nat} {ty : TypeId} {wg : Nat} {Sh : Nat → Prop} {γ γ' : Gh} {O O' : Nat → Prop} {gs gs' : Array Goroutine} {w w' : World} {t u : Trace} {D D' : Nat → WD} {g : Goroutine}

theorem semWg : ∀ e ∈ semEvents (smA wg), ∀ x, (MemAct.ofEvent e).touch? = some x → inB (· = wg) x.loc ∧ x.kind ≠ .plain := by
  intro e he x hx
  simp only [semEvents, List.mem_toArray, List.mem_cons, List.not_mem_nil, or_false] at he
  rcases he with rfl | rfl | rfl | rfl <;> simp [MemAct.ofEvent, MemAct.touch?] at hx <;> subst hx <;> exact ⟨⟨_, rfl, rfl⟩, by simp⟩

/-- AT THE SEMAPHORE. -/
theorem Well.sema (hs : g.status = .running) (hwp : γ.wp = .reg) (hgone : ∀ k, γ.base ≤ k → k < γ.n → γ.m k = .gone) (hoff : g.offers = none)
    (hblk : ∀ w₁, Rl N O w w₁ → (∃ st, WgAt ty wg w₁ st 0) → stepG P true g w₁ = .go { g with status := .blocked } w₁ #[])
    (hup : ∀ w₁, Rl N O w w₁ → WgAt ty wg w₁ 0 1 → ∃ g', stepG P true g w₁ = .go g' (w₁.setCell (smA wg) (.int .u32 0)) (semEvents (smA wg)) ∧ Well P Post R N ty wg O { γ with wp := .fin } g' (w₁.setCell (smA wg) (.int .u32 0))) :
    Well P Post R N ty wg O γ g w := by
  intro Sh gs t sl D hx h
  have key : ∀ T : Nat → Rk, Acc (RL γ.n) T → ∀ w₁ gs t sl D, (fun k => (D k).rk) = T → Rl N O w w₁ → Conf P R N ty wg Sh γ O gs w₁ t D →
      (gs[0]? = some g → Ends P Post (crowd gs w₁ sl) t) ∧ (gs[0]? = some { g with status := .blocked } → (∃ k, k < γ.n ∧ (D k).s ≠ .quit) → Ends P Post (crowd gs w₁ sl) t) := by
    intro T hT
    induction hT with
    | intro T _ ih =>
      have blk : ∀ w₁ gs t sl D, (fun k => (D k).rk) = T → Rl N O w w₁ → Conf P R N ty wg Sh γ O gs w₁ t D → gs[0]? = some { g with status := .blocked } → (∃ k, k < γ.n ∧ (D k).s ≠ .quit) → Ends P Post (crowd gs w₁ sl) t := by
        intro w₁ gs t sl D hD hR h hx ⟨k, hk, hkq⟩
        have hno : ∀ c b, offersAt ({ g with status := .blocked } : Goroutine) c b = [] := fun c b => by unfold offersAt; simp [hoff]
        have h1k : 1 ≤ k := by
          rcases Nat.eq_zero_or_pos k with rfl | h0
          · exact absurd h.zero hkq
          · exact h0
        obtain ⟨x, hxk, hsk, _⟩ := h.wk k h1k hk
        have hbk := h.actOf h1k hk hkq
        have hrun : x.status = .running := by
          have hf := h.fit k hbk hk
          rw [hgone k hbk hk] at hf
          unfold WSit at hsk
          split at hsk <;> rename_i e
          · exact hsk.1.running
          · rw [e] at hf; exact hf.elim
          · rw [e] at hf; exact hf.elim
          · exact absurd e hkq
        refine one h hx (awake_of (.inr (.inl rfl))) sl ⟨k, x, hxk, hrun⟩ (fun e => by cases e) (fun d i gs' w' sl' u D' x' _ _ hc hrl hRl _ _ _ hx' hxx => ?_)
          (fun d i g' sl' _ _ _ _ ⟨_, j, g₂, z, _, _, ho, _⟩ => absurd (hno _ _) ho) (fun d i g' sl' _ _ _ _ ⟨_, p, p', v, g₂, z, _, _, ho, _⟩ => absurd (hno _ _) ho)
        have hIH := ih (fun k => (D' k).rk) (by rw [← hD]; exact hrl) w' gs' (t ++ u) sl' D' rfl (hR.trans ((Rl.at N O w₁ d).trans hRl)) hc
        rcases hxx with e | ⟨e, hq⟩
        · rw [ConcR.again_blocked hs hoff] at e
          exact hIH.1 (by rw [← e]; exact hx')
        · exact hIH.2 (by rw [← e]; exact hx') (hq hwp ⟨k, hk, hkq⟩)
      refine fun w₁ gs t sl D hD hR h => ⟨fun hx => ?_, blk w₁ gs t sl D hD hR h⟩
      have hno : ∀ c b, offersAt g c b = [] := fun c b => offersAt_of_not_blocked (by rw [hs]; simp) c b
      have hlt : 0 < gs.size := (Array.getElem?_eq_some_iff.1 hx).1
      refine one h hx (awake_of (.inl hs)) sl ⟨0, g, hx, hs⟩ (fun _ d sl' => ?_) (fun d i gs' w' sl' u D' x' _ _ hc hrl hRl _ _ _ hx' hxx => ?_)
        (fun d i g' sl' _ _ _ _ ⟨_, j, g₂, z, _, _, ho, _⟩ => absurd (hno _ _) ho) (fun d i g' sl' _ _ _ _ ⟨_, p, p', v, g₂, z, _, _, ho, _⟩ => absurd (hno _ _) ho)
      · have hd := h.at d
        have hRd := hR.trans (Rl.at N O w₁ d)
        have hnoff : γ.wp ≠ .off := by rw [hwp]; simp
        have blocked : (∃ st, WgAt ty wg (w₁.at d) st 0) → (∃ k, k < γ.n ∧ (D k).s ≠ .quit) → Ends0 P Post gs (w₁.at d) sl' t := fun hst hnq => by
          have hgo := hblk _ hRd hst
          refine .inl ⟨_, _, step0_go hx hgo, blk (w₁.at d) _ _ sl' D hD hRd ?_ (by rw [Array.getElem?_setIfInBounds_self_of_lt (by simpa using hlt)]) hnq⟩
          exact hd.grp0 hx hnoff rfl rfl rfl rfl hnoff (Chg.refl _ _) (fun e he => by simp at he) (fun e he => by simp at he) rfl (fun ha => hd.acqKeep ha) hd.mode
        have hmode := hd.mode
        unfold Mode at hmode
        rw [hwp] at hmode
        rcases hmode with ⟨ho, hv, hat⟩ | ⟨l, hl, hls, hq, hat⟩ | ⟨l, hl, hls, hq, hat⟩ | ⟨hq, hat⟩
        · refine blocked ⟨_, hat⟩ ?_
          refine Classical.byContradiction fun hn => ?_
          have hz : ∀ k, k < γ.n → (D k).s = .quit := fun k hk => Classical.byContradiction fun hx => hn ⟨k, hk, hx⟩
          have := ConcN.sumTo_le (f := fun k => (D k).s.cnt) (c := 0) (j := γ.n) fun k hk => by simp only [hz k hk]; exact Nat.le_refl _
          unfold cntTo at hv; omega
        · exact blocked ⟨_, hat⟩ ⟨l, hl, by rcases hls with e | e <;> rw [e] <;> simp⟩
        · exact blocked ⟨_, hat⟩ ⟨l, hl, by rw [hls]; simp⟩
        · obtain ⟨g', hgo, hw⟩ := hup _ hRd hat
          refine .inl ⟨_, _, step0_go hx hgo, hw Sh _ _ sl' D (by rw [Array.getElem?_setIfInBounds_self_of_lt (by simpa using hlt)]) ?_⟩
          refine hd.grp0 (γ' := { γ with wp := .fin }) hx hnoff rfl rfl rfl rfl (by simp) (setCell_chg _ (smA wg) _) semWg (fun e he => ?_) ?_ (fun ha => ?_) ?_
          · simp only [semEvents, List.mem_toArray, List.mem_cons, List.not_mem_nil, or_false] at he
            rcases he with rfl | rfl | rfl | rfl <;> simp
          · simp [semEvents, deafBehind]
          · have := (h.acq ha).1; rw [hwp] at this; cases this
          · unfold Mode
            exact ⟨hq, hat.setSm 0⟩
      · have e : x' = g := by
          rcases hxx with e | e
          · rw [e]; exact again_running _ (.inl hs)
          · exact e.1
        subst e
        exact (ih (fun k => (D' k).rk) (by rw [← hD]; exact hrl) w' gs' (t ++ u) sl' D' rfl (hR.trans ((Rl.at N O w₁ d).trans hRl)) hc).1 hx'
  exact (key _ (RL.acc γ.n _) w gs t sl D rfl (Rl.refl _ _ _) h).1 hx

/-- What a worker offers. -/
theorem Conf.offW (h : Conf P R N ty wg Sh γ O gs w t D) {k : Nat} (h1 : 1 ≤ k) (h2 : k < γ.n) {x : Goroutine} (hx : gs[k]? = some x) {c : Nat} {b : Bool} (ho : offersAt x c b ≠ []) :
    γ.base ≤ k ∧ ((b = false ∧ c = (γ.K k).b ∧ ∃ j, (D k).s = .pr j) ∨ (b = true ∧ c = (γ.K k).c ∧ ∃ p, (D k).s = .ps p)) := by
  obtain ⟨g, hg, hs, _⟩ := h.wk k h1 h2
  rw [hx] at hg; cases hg
  unfold WSit at hs
  split at hs <;> rename_i e
  · exact absurd (offersAt_of_not_blocked (by rw [hs.1.running]; simp) _ _) ho
  · obtain ⟨⟨g₂, z, rfl, _⟩, _⟩ := hs
    refine ⟨h.actOf h1 h2 (by rw [e]; simp), .inl ?_⟩
    cases b with
    | true => exact absurd (offersAt_parked_recv' _ _ _ _ _) ho
    | false =>
      rw [offersAt_parked_recv] at ho
      by_cases hc : (γ.K k).b = c
      · exact ⟨rfl, hc.symm, _, e⟩
      · rw [if_neg hc] at ho; exact absurd rfl ho
  · obtain ⟨⟨g₂, z, p', v, rfl, _⟩, _⟩ := hs
    refine ⟨h.actOf h1 h2 (by rw [e]; simp), .inr ?_⟩
    cases b with
    | false => exact absurd (offersAt_parked_send' _ _ _ _ _ _) ho
    | true =>
      rw [offersAt_parked_send] at ho
      by_cases hc : (γ.K k).c = c
      · exact ⟨rfl, hc.symm, _, e⟩
      · rw [if_neg hc] at ho; exact absurd rfl ho
  · obtain ⟨q, _, hq⟩ := hs
    exact absurd (offersAt_of_not_blocked (by rcases hq.status with h | h <;> rw [h] <;> simp) _ _) ho

theorem Conf.lt_n (h : Conf P R N ty wg Sh γ O gs w t D) {k : Nat} {x : Goroutine} (hx : gs[k]? = some x) : k < γ.n := by
  rw [← h.size]; exact (Array.getElem?_eq_some_iff.1 hx).1

/-- The starter is picked: who offers a receive at b i. -/
theorem Conf.part0R (h : Conf P R N ty wg Sh γ O gs w t D) {i : Nat} (h1 : γ.base ≤ i) (h2 : i < γ.n) (hn : ∀ j, (D i).s ≠ .pr j) : partners (gs.setIfInBounds 0 ph) (γ.K i).b false = [] := by
  refine partners_nil fun k x hk => ?_
  rcases getElem?_stand gs 0 k x hk with ⟨_, rfl⟩ | ⟨hk0, hk⟩
  · rfl
  · refine Classical.byContradiction fun ho => ?_
    obtain ⟨hb, ⟨_, hc, j, e⟩ | ⟨e, _⟩⟩ := h.offW (by omega) (h.lt_n hk) hk ho
    · by_cases hki : k = i
      · subst hki; exact hn j e
      · exact ((h.chD i k h1 h2 hb (h.lt_n hk)).2 (fun e => hki e.symm)).1 hc
    · cases e
theorem Conf.part0S (h : Conf P R N ty wg Sh γ O gs w t D) {i : Nat} (h1 : γ.base ≤ i) (h2 : i < γ.n) (hn : ∀ p, (D i).s ≠ .ps p) : partners (gs.setIfInBounds 0 ph) (γ.K i).c true = [] := by
  refine partners_nil fun k x hk => ?_
  rcases getElem?_stand gs 0 k x hk with ⟨_, rfl⟩ | ⟨hk0, hk⟩
  · rfl
  · refine Classical.byContradiction fun ho => ?_
    obtain ⟨hb, ⟨e, _⟩ | ⟨_, hc, p, e⟩⟩ := h.offW (by omega) (h.lt_n hk) hk ho
    · cases e
    · by_cases hki : k = i
      · subst hki; exact hn p e
      · exact ((h.chD i k h1 h2 hb (h.lt_n hk)).2 (fun e => hki e.symm)).2 hc
theorem Conf.part0R1 (h : Conf P R N ty wg Sh γ O gs w t D) {i : Nat} (h1 : γ.base ≤ i) (h2 : i < γ.n) {gj : Goroutine} {z : Value} {sh : CommShape} (hj : gs[i]? = some (parked gj #[rcase (γ.K i).b z] sh)) :
    partners (gs.setIfInBounds 0 ph) (γ.K i).b false = [(i, 0)] := by
  have hb1 := h.base1
  rw [partners_one (stand_get (i := 0) (by omega) hj) fun k x hki hk => ?_, offersAt_parked_recv, if_pos rfl]
  · rfl
  · rcases getElem?_stand gs 0 k x hk with ⟨_, rfl⟩ | ⟨hk0, hk⟩
    · rfl
    · refine Classical.byContradiction fun ho => ?_
      obtain ⟨hb, ⟨_, hc, j, e⟩ | ⟨e, _⟩⟩ := h.offW (by omega) (h.lt_n hk) hk ho
      · exact ((h.chD i k h1 h2 hb (h.lt_n hk)).2 (fun e => hki e.symm)).1 hc
      · cases e
theorem Conf.part0S1 (h : Conf P R N ty wg Sh γ O gs w t D) {i : Nat} (h1 : γ.base ≤ i) (h2 : i < γ.n) {gj : Goroutine} {v z : Value} {sh : CommShape} (hj : gs[i]? = some (parked gj #[scase (γ.K i).c v z] sh)) :
    partners (gs.setIfInBounds 0 ph) (γ.K i).c true = [(i, 0)] := by
  have hb1 := h.base1
  rw [partners_one (stand_get (i := 0) (by omega) hj) fun k x hki hk => ?_, offersAt_parked_send, if_pos rfl]
  · rfl
  · rcases getElem?_stand gs 0 k x hk with ⟨_, rfl⟩ | ⟨hk0, hk⟩
    · rfl
    · refine Classical.byContradiction fun ho => ?_
      obtain ⟨hb, ⟨e, _⟩ | ⟨_, hc, p, e⟩⟩ := h.offW (by omega) (h.lt_n hk) hk ho
      · cases e
      · exact ((h.chD i k h1 h2 hb (h.lt_n hk)).2 (fun e => hki e.symm)).2 hc
/-- Worker i is picked: the starter alone offers. -/
theorem Conf.partS1 (h : Conf P R N ty wg Sh γ O gs w t D) {i : Nat} (h1 : γ.base ≤ i) (h2 : i < γ.n) {gj : Goroutine} {v z : Value} {sh : CommShape} (hj : gs[0]? = some (parked gj #[scase (γ.K i).b v z] sh)) :
    partners (gs.setIfInBounds i ph) (γ.K i).b true = [(0, 0)] := by
  have hb1 := h.base1
  rw [partners_one (stand_get (i := i) (by omega) hj) fun k x hk0 hk => ?_, offersAt_parked_send, if_pos rfl]
  · rfl
  · rcases getElem?_stand gs i k x hk with ⟨_, rfl⟩ | ⟨_, hk⟩
    · rfl
    · refine Classical.byContradiction fun ho => ?_
      obtain ⟨hb, ⟨e, _⟩ | ⟨_, hc, p, e⟩⟩ := h.offW (by omega) (h.lt_n hk) hk ho
      · cases e
      · exact (h.chD i k h1 h2 hb (h.lt_n hk)).1 hc
theorem Conf.partR1 (h : Conf P R N ty wg Sh γ O gs w t D) {i : Nat} (h1 : γ.base ≤ i) (h2 : i < γ.n) {gj : Goroutine} {z : Value} {sh : CommShape} (hj : gs[0]? = some (parked gj #[rcase (γ.K i).c z] sh)) :
    partners (gs.setIfInBounds i ph) (γ.K i).c false = [(0, 0)] := by
  have hb1 := h.base1
  rw [partners_one (stand_get (i := i) (by omega) hj) fun k x hk0 hk => ?_, offersAt_parked_recv, if_pos rfl]
  · rfl
  · rcases getElem?_stand gs i k x hk with ⟨_, rfl⟩ | ⟨_, hk⟩
    · rfl
    · refine Classical.byContradiction fun ho => ?_
      obtain ⟨hb, ⟨_, hc, j, e⟩ | ⟨e, _⟩⟩ := h.offW (by omega) (h.lt_n hk) hk ho
      · exact (h.chD k i hb (h.lt_n hk) h1 h2).1 hc.symm
      · cases e

theorem chan_rl {k cap s r : Nat} {buf : Array Value} {cl tm : Bool} (hN : N ≤ k) (hO : ¬ O k) : Rl N O w (w.setChan k cap buf cl s r tm) :=
  ⟨rfl, rfl, rfl, by rw [setChan_size]; exact Nat.le_refl _, fun b _ hb => setChan_old fun e => hb.elim (fun x => by omega) fun x => hO (e ▸ x)⟩
theorem chan_chg {k cap s r : Nat} {buf : Array Value} {cl tm : Bool} : Chg (· = k) w (w.setChan k cap buf cl s r tm) :=
  ⟨rfl, rfl, rfl, by rw [setChan_size]; exact Nat.le_refl _, fun b _ hb => setChan_old hb⟩
end
end Go.Proofs.Ytnmhgfeglfcbgaa
