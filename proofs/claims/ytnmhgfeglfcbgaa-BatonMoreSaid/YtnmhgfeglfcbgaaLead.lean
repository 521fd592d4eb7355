/-
  Proved here: all is well with the starter from here on: what that means, and that it is closed under the starter's own steps and under its waiting for a worker.
  Conditions: none beyond each law's own.
-/
import Derived.Test.YtnmhgfeglfcbgaaAny
import Derived.Conc.Pipeline3
import Derived.Listen
namespace Go.Proofs.Ytnmhgfeglfcbgaa
open Go.Conc
open Go.ConcR (KK wgBlock WgAt stA smA rd wr DC0)
open Go.ConcN (WgLive sumTo)

section
variable {P : Program} {Post : Value → World → Prop} {R : Nat → Prop} {N : Nat} {ty : TypeId} {wg : Nat} {Sh : Nat → Prop} {γ γ' : Gh} {O O' : Nat → Prop} {gs gs' : Array Goroutine} {w w' : World} {t u : Trace} {D D' : Nat → WD}

/-- From here it ends, and well. -/
def Ends (P : Program) (Post : Value → World → Prop) (m : Machine) (t : Trace) : Prop :=
  ∃ n last o w' t', runNT P (n + 1) m t = (.ended o w', t') ∧ runN P n m = .next last ∧ Go.step P last = .ended o w' ∧ Conc.Good P Post last o w' t'

theorem Ends.step {m m' : Machine} {t u : Trace} (h : stepT P m = (.next m', u)) (e : Ends P Post m' (t ++ u)) : Ends P Post m t := by
  obtain ⟨n, last, o, w', t', h1, h2, h3, h4⟩ := e
  refine ⟨n + 1, last, o, w', t', ?_, ?_, h3, h4⟩
  · rw [runNT_succ_next h]; exact h1
  · have hs : Go.step P m = .next m' := by
      have := congrArg Prod.fst h
      rw [stepT_fst P m true] at this
      exact this
    rw [show n + 1 = 1 + n by omega, runN_add]
    simp only [runN, hs]
    exact h2

theorem Ends.last {m : Machine} {t u : Trace} {o : Outcome} (h : stepT P m = (.ended o w', u)) (hg : Conc.Good P Post m o w' (t ++ u)) : Ends P Post m t := by
  have hs : Go.step P m = .ended o w' := by
    have := congrArg Prod.fst h
    rw [stepT_fst P m true] at this
    exact this
  exact ⟨0, m, o, w', t ++ u, by simp only [runNT, h], rfl, hs, hg⟩

/-- The starter's own step. -/
def Ends0 (P : Program) (Post : Value → World → Prop) (gs : Array Goroutine) (w : World) (sl : Option (Nat × Nat)) (t : Trace) : Prop :=
  (∃ m' u, runT P (crowd gs w sl) 0 = (.next m', u) ∧ Ends P Post m' (t ++ u)) ∨ (∃ o w' u, runT P (crowd gs w sl) 0 = (.ended o w', u) ∧ ∀ w₂ sl₂, Conc.Good P Post (crowd gs w₂ sl₂) o w' (t ++ u))

theorem WSit.awake {K : WK} {d : WD} {g : Goroutine} (h : WSit P R N ty wg K d g w) : awake g := by
  refine awake_of ?_
  unfold WSit at h
  split at h
  · exact .inl h.1.running
  · obtain ⟨⟨g₂, z, rfl, _⟩, _⟩ := h; exact .inr (.inl rfl)
  · obtain ⟨⟨g₂, z, p', v, rfl, _⟩, _⟩ := h; exact .inr (.inl rfl)
  · obtain ⟨q, _, hq⟩ := h
    exact hq.status.imp id .inr

/-- ONE STEP, WHOEVER IS PICKED. -/
theorem one (h : Conf P R N ty wg Sh γ O gs w t D) {x0 : Goroutine} (hx : gs[0]? = some x0) (aw : awake x0) (sl : Option (Nat × Nat)) (some1 : ∃ (i : Nat) (g : Goroutine), gs[i]? = some g ∧ g.status = .running)
    (H0 : x0.status = .running → ∀ d sl', Ends0 P Post gs (w.at d) sl' t)
    (HP : ∀ d i gs' w' sl' u D' x', 1 ≤ i → i < γ.n → Conf P R N ty wg Sh γ O gs' w' (t ++ u) D' → RL γ.n (fun k => (D' k).rk) (fun k => (D k).rk) → Rl N O (w.at d) w' → (∀ k, k ≠ i → D' k = D k) →
      (∀ j, (D' i).s = .pr j → offersAt x0 (γ.K i).b true = []) → (∀ p, (D' i).s = .ps p → offersAt x0 (γ.K i).c false = []) → gs'[0]? = some x' →
      (x' = x0.again w' ∨ (x' = x0 ∧ (γ.wp = .reg → (∃ k, k < γ.n ∧ (D k).s ≠ .quit) → ∃ k, k < γ.n ∧ (D' k).s ≠ .quit))) → Ends P Post (crowd gs' w' sl') (t ++ u))
    (HR : ∀ d i g sl', 1 ≤ i → i < γ.n → gs[i]? = some g → Conf P R N ty wg Sh γ O gs (w.at d) t D → MeetR P R N ty wg γ (w.at d) D i g x0 → ∃ m' u, runT P (crowd gs (w.at d) sl') i = (.next m', u) ∧ Ends P Post m' (t ++ u))
    (HS : ∀ d i g sl', 1 ≤ i → i < γ.n → gs[i]? = some g → Conf P R N ty wg Sh γ O gs (w.at d) t D → MeetS P R N ty wg γ (w.at d) D i g x0 → ∃ m' u, runT P (crowd gs (w.at d) sl') i = (.next m', u) ∧ Ends P Post m' (t ++ u)) :
    Ends P Post (crowd gs w sl) t := by
  have awk : ∀ g ∈ gs, awake g := by
    intro g hg
    obtain ⟨i, hi, rfl⟩ := Array.mem_iff_getElem.1 hg
    rcases Nat.eq_zero_or_pos i with rfl | h0
    · rw [Array.getElem?_eq_getElem hi] at hx
      cases hx; exact aw
    · obtain ⟨g', hg', hs, _⟩ := h.wk i h0 (by rw [← h.size]; exact hi)
      rw [Array.getElem?_eq_getElem hi] at hg'
      cases hg'; exact hs.awake
  obtain ⟨i, g, d, sl', hgi, hr, hst⟩ := crowd_pick (P := P) (w := w) (sl := sl) awk some1
  have hd := h.at d
  rcases Nat.eq_zero_or_pos i with rfl | h0
  · rw [hx] at hgi
    cases hgi
    rcases H0 hr d sl' with ⟨m', u, e, he⟩ | ⟨o, w', u, e, he⟩
    · exact .step (hst.trans e) he
    · exact .last (hst.trans e) (he _ _)
  · have hin : i < γ.n := by rw [← h.size]; exact (Array.getElem?_eq_some_iff.1 hgi).1
    rcases workerStep hd h0 hin hgi hr hx sl' with ⟨gs', w', u, D', e, hc, hrl, hRl, hDk, hp1, hp2, x', hx', hxx⟩ | hm | hm
    · exact .step (hst.trans e) (HP d i gs' w' sl' u D' x' h0 hin hc hrl hRl hDk hp1 hp2 hx' hxx)
    · obtain ⟨m', u, e, he⟩ := HR d i g sl' h0 hin hgi hd hm
      exact .step (hst.trans e) he
    · obtain ⟨m', u, e, he⟩ := HS d i g sl' h0 hin hgi hd hm
      exact .step (hst.trans e) he

theorem Rl.at (N : Nat) (O : Nat → Prop) (w : World) (d : Nat) : Rl N O w (w.at d) := ⟨rfl, rfl, rfl, Nat.le_refl _, fun _ _ _ => rfl⟩

/-- The starter runs: it is enough to see its own step, whatever the others have done before. -/
theorem pick0 {g : Goroutine} (hs : g.status = .running) (H : ∀ w₁ Sh gs t sl D, Rl N O w w₁ → gs[0]? = some g → Conf P R N ty wg Sh γ O gs w₁ t D → Ends0 P Post gs w₁ sl t)
    (Sh : Nat → Prop) (gs : Array Goroutine) (t : Trace) (sl : Option (Nat × Nat)) (D : Nat → WD) (hx : gs[0]? = some g) (h : Conf P R N ty wg Sh γ O gs w t D) : Ends P Post (crowd gs w sl) t := by
  have key : ∀ T : Nat → Rk, Acc (RL γ.n) T → ∀ w₁ gs t sl D, (fun k => (D k).rk) = T → Rl N O w w₁ → gs[0]? = some g → Conf P R N ty wg Sh γ O gs w₁ t D → Ends P Post (crowd gs w₁ sl) t := by
    intro T hT
    induction hT with
    | intro T _ ih =>
      intro w₁ gs t sl D hD hR hx h
      have hno : ∀ c b, offersAt g c b = [] := fun c b => offersAt_of_not_blocked (by rw [hs]; simp) c b
      refine one h hx (awake_of (.inl hs)) sl ⟨0, g, hx, hs⟩ (fun _ d sl' => H _ Sh gs t sl' D (hR.trans (.at N O w₁ d)) hx (h.at d)) (fun d i gs' w' sl' u D' x' _ _ hc hrl hRl _ _ _ hx' hxx => ?_)
        (fun d i g' sl' _ _ _ _ ⟨_, j, g₂, z, _, _, ho, _⟩ => absurd (hno _ _) ho) (fun d i g' sl' _ _ _ _ ⟨_, p, p', v, g₂, z, _, _, ho, _⟩ => absurd (hno _ _) ho)
      have e : x' = g := by
        rcases hxx with e | e
        · rw [e]; exact again_running _ (.inl hs)
        · exact e.1
      subst e
      exact ih (fun k => (D' k).rk) (by rw [← hD]; exact hrl) w' gs' (t ++ u) sl' D' rfl (hR.trans ((Rl.at N O w₁ d).trans hRl)) hx' hc
  exact key _ (RL.acc γ.n _) w gs t sl D rfl (Rl.refl _ _ _) hx h

/-- All is well with the starter from here on. -/
def Well (P : Program) (Post : Value → World → Prop) (R : Nat → Prop) (N : Nat) (ty : TypeId) (wg : Nat) (O : Nat → Prop) (γ : Gh) (g : Goroutine) (w : World) : Prop :=
  ∀ Sh gs t sl D, gs[0]? = some g → Conf P R N ty wg Sh γ O gs w t D → Ends P Post (crowd gs w sl) t

/-! ### The starter's own steps -/
theorem Conf.step0 (h : Conf P R N ty wg Sh γ O gs w t D) {g g' : Goroutine} {fn : FuncId} {pos : String} {es : Array Event} {S : Nat → Prop} (_hx : gs[0]? = some g)
    (hb : γ'.base = γ.base) (hn : γ'.n = γ.n) (hK : γ'.K = γ.K) (hm : γ'.m = γ.m) (hoff : γ'.wp ≠ .off → γ.wp ≠ .off) (hoff' : γ'.wp = .off → γ.wp = .off)
    (hchg : Chg S w w') (hSN : ∀ b, S b → N ≤ b) (hSd : ∀ k, γ.base ≤ k → k < γ.n → ∀ b, S b → ¬ (D k).O b) (hSc : ∀ k, γ.base ≤ k → k < γ.n → ¬ S (γ.K k).b ∧ ¬ S (γ.K k).c)
    (hO : ∀ b, O' b → O b ∨ (w.heap.size ≤ b ∧ b < w'.heap.size)) (hop : ∀ op ∈ MemOp.ofEvents 0 fn pos es, OkG 0 w.heap.size w'.heap.size O R Sh op)
    (hdeaf : deafBehind γ.deaf es = γ'.deaf) (hnr : ∀ e ∈ es, e.loc ≠ .mark (.release (stA wg)))
    (hacq : γ'.acq = true → γ'.wp = .fin ∧ ∃ q, (t ++ MemOp.ofEvents 0 fn pos es).act? q = some (.mark (.acquire (stA wg))) ∧ (t ++ MemOp.ofEvents 0 fn pos es).g? q = some 0 ∧ (t ++ MemOp.ofEvents 0 fn pos es).heard q ∧
      ∀ i, γ.base ≤ i → i < γ.n → ∃ r, RelB wg (t ++ MemOp.ofEvents 0 fn pos es) i r ∧ r < q)
    (hmode : Mode ty wg γ' D w') : Conf P R N ty wg Sh γ' O' ((gs.map (woken P g g' w')).setIfInBounds 0 g') w' (t ++ MemOp.ofEvents 0 fn pos es) D := by
  have hug : ∀ op ∈ MemOp.ofEvents 0 fn pos es, op.g = 0 := fun op hop' => (hop op hop').1
  have hb1 := h.base1
  have hchan : ∀ k, γ.base ≤ k → k < γ.n → w'.heap[(γ.K k).b]? = w.heap[(γ.K k).b]? ∧ w'.heap[(γ.K k).c]? = w.heap[(γ.K k).c]? := fun k k1 k2 => by
    obtain ⟨s, r, e⟩ := h.chb k k1 k2
    obtain ⟨s', r', e'⟩ := h.chc k k1 k2
    exact ⟨hchg.block _ (Array.getElem?_eq_some_iff.1 e).1 (hSc k k1 k2).1, hchg.block _ (Array.getElem?_eq_some_iff.1 e').1 (hSc k k1 k2).2⟩
  refine h.next (i := 0) (S := S) hb hn hK hoff hoff' (by simp) (fun k k1 k2 hk0 => ?_) (fun _ _ => rfl) (fun _ => rfl) (fun e => absurd rfl e) hchg hSN (fun k k1 k2 _ => hSd k k1 k2) (fun h0 => by omega) (fun h0 => by omega)
    (fun k k1 k2 hk0 => Deaf_other t (fun e => hk0 e.symm) _ hug) (by rw [Deaf_own, h.deaf0]; exact hdeaf) (fun k k1 k2 => by rw [hm]; exact h.fit k k1 k2)
    (fun k k1 k2 => ?_) (fun k k1 k2 => ?_) hO ?_ (fun hw => (h.norel (hoff hw)).app ?_) (fun k k1 k2 hr => ?_) hacq hmode
  · obtain ⟨x, hxk, _⟩ := h.wk k k1 k2
    rw [Array.getElem?_setIfInBounds_ne (fun e => hk0 e.symm), Array.getElem?_map, hxk, Option.map_some, h.still k1 k2 hxk (fun hbk => hchan k hbk k2) g g']
  · rw [hm]
    obtain ⟨s, r, e⟩ := h.chb k k1 k2
    exact ⟨s, r, (hchan k k1 k2).1.trans e⟩
  · obtain ⟨s, r, e⟩ := h.chc k k1 k2
    exact ⟨s, r, (hchan k k1 k2).2.trans e⟩
  · exact h.ti.app h.ap (.inl rfl) (by have := h.baseN; omega) hchg.size hop (fun g' _ hg' b hb => by unfold OwF at hb ⊢; rw [if_neg hg'] at hb ⊢; exact hb) fun b hb => (hO b hb).imp id And.left
  · intro op hop' e
    obtain ⟨e', he', rfl⟩ := mem_ofEvents hop'
    have := hnr e' he'
    obtain ⟨loc, wr, sy⟩ := e'
    cases loc with
    | mark m => exact this (by simpa [MemAct.ofEvent] using e)
    | obj c => cases wr <;> cases sy <;> simp [MemAct.ofEvent] at e
    | _ => simp [MemAct.ofEvent] at e
  · obtain ⟨r, hr⟩ := h.rel k k1 k2 hr
    exact ⟨r, hr.idle fun op hop' e => absurd ((hug op hop').symm.trans e) (by omega)⟩

/-- What was acquired stays so. -/
theorem Conf.acqKeep (h : Conf P R N ty wg Sh γ O gs w t D) {fn : FuncId} {pos : String} {es : Array Event} (ha : γ.acq = true) :
    γ.wp = .fin ∧ ∃ q, (t ++ MemOp.ofEvents 0 fn pos es).act? q = some (.mark (.acquire (stA wg))) ∧ (t ++ MemOp.ofEvents 0 fn pos es).g? q = some 0 ∧ (t ++ MemOp.ofEvents 0 fn pos es).heard q ∧
      ∀ i, γ.base ≤ i → i < γ.n → ∃ r, RelB wg (t ++ MemOp.ofEvents 0 fn pos es) i r ∧ r < q := by
  obtain ⟨hf, hq⟩ := h.acq ha
  have hb1 := h.base1
  refine ⟨hf, acqApp hq fun k r k1 _ hr => hr.idle fun op hop e => ?_⟩
  obtain ⟨e', _, rfl⟩ := mem_ofEvents hop
  simp only at e
  omega

theorem step0_go {g g' : Goroutine} {es : Array Event} {sl : Option (Nat × Nat)} (hx : gs[0]? = some g) (hgo : stepG P true g w = .go g' w' es) :
    runT P (crowd gs w sl) 0 = (.next (crowd ((gs.map (woken P g g' w')).setIfInBounds 0 g') w' sl), MemOp.ofEvents 0 g.frame.fn g.frame.place es) := runT_crowd_go (i := 0) hx hgo
end
end Go.Proofs.Ytnmhgfeglfcbgaa
