/-
  Proved here: whatever step a worker takes: it keeps what holds of the machine, and lowers its rank; or it stands at a communication at which the starter waits.
  Conditions: none beyond each law's own.
-/
import Derived.Test.YtnmhgfeglfcbgaaMach
namespace Go.Proofs.Ytnmhgfeglfcbgaa
open Go.Conc
open Go.ConcR (KK wgBlock WgAt stA smA rd wr mk DC0)
open Go.ConcN (WgLive sumTo)

section
variable {P : Program} {R : Nat → Prop} {N : Nat} {ty : TypeId} {wg : Nat} {Sh : Nat → Prop} {γ γ' : Gh} {O O' : Nat → Prop} {gs gs' : Array Goroutine} {w w' : World} {t u : Trace} {D D' : Nat → WD}

/-- A communication in which worker i takes part. -/
theorem Conf.comm (h : Conf P R N ty wg Sh γ O gs w t D) {i : Nat} (h1 : γ.base ≤ i) (h2 : i < γ.n) {m' : MP} {d : WD} {g' : Goroutine} {S : Nat → Prop}
    (hsz : gs'.size = gs.size) (hgs : ∀ k, 1 ≤ k → k < γ.n → k ≠ i → gs'[k]? = gs[k]?) (hgi : gs'[i]? = some g')
    (hchg : Chg S w w') (hS : ∀ b, S b → b = (γ.K i).b ∨ b = (γ.K i).c) (hsize : w'.heap.size = w.heap.size)
    (hsit : WSit P R N ty wg (γ.K i) d g' w') (hdO : d.O = (D i).O) (hdd : d.d = (D i).d) (hfit : fits m' d.s)
    (hb : ∃ s r, w'.heap[(γ.K i).b]? = some (.chan 0 #[] m'.shutB s r false)) (hc : ∃ s r, w'.heap[(γ.K i).c]? = some (.chan 0 #[] d.s.shutC s r false))
    (hu : ∀ op ∈ u, op.g < γ.n ∧ op.act.touch? = none ∧ ∀ m, op.act ≠ .mark m) (hrel : d.s.rel = false) (hcnt : (D i).s.cnt = 1) (hcnt' : d.s.cnt = 1) :
    Conf P R N ty wg Sh (γ.set i m') O gs' w' (t ++ u) (setD D i d) := by
  have hb1 := h.base1
  have hne : i ≠ 0 := by omega
  have hstill : ∀ g, Deaf (t ++ u) g = Deaf t g := fun g => ConcN.Deaf_still t g u fun op hop => ⟨(hu op hop).2.2 _, (hu op hop).2.2 _⟩
  have relk : ∀ k r, RelB wg t k r → RelB wg (t ++ u) k r := fun k r hr => hr.idle fun op hop _ => (hu op hop).2.1
  have heap : ∀ b, b < w.heap.size → b ≠ (γ.K i).b → b ≠ (γ.K i).c → w'.heap[b]? = w.heap[b]? := fun b hb n1 n2 => hchg.block b hb fun e => (hS b e).elim n1 n2
  have hOw : OwF O (setD D i d) = OwF O D := by
    funext g
    unfold OwF
    split
    · rfl
    · by_cases e : g = i
      · subst e; rw [setD_same, hdO]
      · rw [setD_ne D d e]
  have nowg : (γ.K i).b ≠ wg ∧ (γ.K i).c ≠ wg := ⟨(h.chN i h1 h2).2.2.1, (h.chN i h1 h2).2.2.2⟩
  have hnoff := h.notOff h1 h2
  have hwgs : w'.heap[wg]? = w.heap[wg]? := by
    obtain ⟨st, sm, hl⟩ := h.mode.live hnoff
    exact heap wg (Array.getElem?_eq_some_iff.1 hl).1 (fun e => nowg.1 e.symm) fun e => nowg.2 e.symm
  refine h.next (i := i) (S := S) rfl rfl rfl id id hsz hgs (fun k hk => setD_ne D d hk) (fun e => absurd e hne) (fun _ => rfl) hchg
    (fun b hb => (hS b hb).elim (fun e => by rw [e]; exact (h.chN i h1 h2).1) (fun e => by rw [e]; exact (h.chN i h1 h2).2.1))
    (fun k k1 k2 hki b hb hx => ?_) (fun _ _ => ⟨g', hgi, by rw [setD_same]; exact hsit, ?_⟩) (fun _ hlt => by omega) (fun k _ _ _ => hstill k) ((hstill 0).trans h.deaf0)
    (fun k k1 k2 => ?_) (fun k k1 k2 => ?_) (fun k k1 k2 => ?_) (fun b hb => ?_) ?_ (fun hw => (h.norel hw).app fun op hop => (hu op hop).2.2 _) (fun k k1 k2 hr => ?_) (fun hacq => ?_) (h.mode.same h2 hcnt hcnt' hwgs)
  · have := h.chO i h1 h2 k (.inr ⟨k1, k2⟩)
    rw [OwF_pos (by omega)] at this
    rcases hS b hb with e | e
    · exact this.1 (e ▸ hx)
    · exact this.2 (e ▸ hx)
  · rw [hstill, setD_same, hdd]
    exact (h.wk i (by omega) h2).choose_spec.2.2
  · show fits (if k = i then m' else γ.m k) _
    by_cases e : k = i
    · subst e; rw [setD_same, if_pos rfl]; exact hfit
    · rw [setD_ne D d e, if_neg e]; exact h.fit k k1 k2
  · show ∃ s r, w'.heap[(γ.K k).b]? = some (.chan 0 #[] (if k = i then m' else γ.m k).shutB s r false)
    by_cases e : k = i
    · subst e; rw [if_pos rfl]; exact hb
    · rw [if_neg e]
      obtain ⟨s, r, e'⟩ := h.chb k k1 k2
      exact ⟨s, r, (heap _ (Array.getElem?_eq_some_iff.1 e').1 ((h.chD k i k1 k2 h1 h2).2 e).1 (h.chD k i k1 k2 h1 h2).1).trans e'⟩
  · by_cases e : k = i
    · subst e; rw [setD_same]; exact hc
    · rw [setD_ne D d e]
      obtain ⟨s, r, e'⟩ := h.chc k k1 k2
      exact ⟨s, r, (heap _ (Array.getElem?_eq_some_iff.1 e').1 (fun x => (h.chD i k h1 h2 k1 k2).1 x.symm) ((h.chD k i k1 k2 h1 h2).2 e).2).trans e'⟩
  · rw [hOw] at hb; exact .inl hb
  · rw [hOw, hsize]
    exact h.ti.idle fun op hop => ⟨(hu op hop).1, (hu op hop).2.1⟩
  · by_cases e : k = i
    · subst e; rw [setD_same] at hr; rw [hrel] at hr; cases hr
    · rw [setD_ne D d e] at hr
      obtain ⟨r, hr⟩ := h.rel k k1 k2 hr
      exact ⟨r, relk k r hr⟩
  · obtain ⟨hf, hq⟩ := h.acq hacq
    exact ⟨hf, acqApp hq fun k r _ _ hr => relk k r hr⟩

/-- Nobody but the starter offers anything at these channels. -/
theorem Conf.noSend (h : Conf P R N ty wg Sh γ O gs w t D) {i : Nat} (h1 : γ.base ≤ i) (h2 : i < γ.n) {x0 : Goroutine} (hx : gs[0]? = some x0) (h0 : offersAt x0 (γ.K i).b true = []) :
    partners (gs.setIfInBounds i ph) (γ.K i).b true = [] := by
  refine partners_nil fun k x hk => ?_
  rcases getElem?_stand gs i k x hk with ⟨_, rfl⟩ | ⟨_, hk⟩
  · rfl
  · by_cases e : k = 0
    · subst e; rw [hx] at hk; cases hk; exact h0
    · have hlt := (Array.getElem?_eq_some_iff.1 hk).1
      rw [h.size] at hlt
      obtain ⟨g, hg, hs, _⟩ := h.wk k (by omega) hlt
      rw [hk] at hg; cases hg
      unfold WSit at hs
      split at hs <;> rename_i e'
      · exact offersAt_of_not_blocked (by rw [hs.1.running]; simp) _ _
      · obtain ⟨⟨g₂, z, rfl, _⟩, _⟩ := hs
        exact offersAt_parked_recv' _ _ _ _ _
      · obtain ⟨⟨g₂, z, p', v, rfl, _⟩, _⟩ := hs
        have hb := h.actOf (by omega) hlt (by rw [e']; simp)
        rw [offersAt_parked_send, if_neg]
        exact fun x => (h.chD i k h1 h2 hb hlt).1 x.symm
      · obtain ⟨q, _, hq⟩ := hs
        exact offersAt_of_not_blocked (by rcases hq.status with h | h <;> rw [h] <;> simp) _ _
theorem Conf.noRecv (h : Conf P R N ty wg Sh γ O gs w t D) {i : Nat} (h1 : γ.base ≤ i) (h2 : i < γ.n) {x0 : Goroutine} (hx : gs[0]? = some x0) (h0 : offersAt x0 (γ.K i).c false = []) :
    partners (gs.setIfInBounds i ph) (γ.K i).c false = [] := by
  refine partners_nil fun k x hk => ?_
  rcases getElem?_stand gs i k x hk with ⟨_, rfl⟩ | ⟨_, hk⟩
  · rfl
  · by_cases e : k = 0
    · subst e; rw [hx] at hk; cases hk; exact h0
    · have hlt := (Array.getElem?_eq_some_iff.1 hk).1
      rw [h.size] at hlt
      obtain ⟨g, hg, hs, _⟩ := h.wk k (by omega) hlt
      rw [hk] at hg; cases hg
      unfold WSit at hs
      split at hs <;> rename_i e'
      · exact offersAt_of_not_blocked (by rw [hs.1.running]; simp) _ _
      · obtain ⟨⟨g₂, z, rfl, _⟩, _⟩ := hs
        have hb := h.actOf (by omega) hlt (by rw [e']; simp)
        rw [offersAt_parked_recv, if_neg]
        exact fun x => (h.chD k i hb hlt h1 h2).1 x
      · obtain ⟨⟨g₂, z, p', v, rfl, _⟩, _⟩ := hs
        exact offersAt_parked_send' _ _ _ _ _ _
      · obtain ⟨q, _, hq⟩ := hs
        exact offersAt_of_not_blocked (by rcases hq.status with h | h <;> rw [h] <;> simp) _ _

/-- It goes on; the starter is as it was, or let try again. -/
def Prog (P : Program) (R : Nat → Prop) (N : Nat) (ty : TypeId) (wg : Nat) (Sh : Nat → Prop) (γ : Gh) (O : Nat → Prop) (gs : Array Goroutine) (w : World) (sl : Option (Nat × Nat)) (t : Trace) (D : Nat → WD) (i : Nat) (x0 : Goroutine) : Prop :=
  ∃ gs' w' u D', runT P (crowd gs w sl) i = (.next (crowd gs' w' sl), u) ∧ Conf P R N ty wg Sh γ O gs' w' (t ++ u) D' ∧ RL γ.n (fun k => (D' k).rk) (fun k => (D k).rk) ∧ Rl N O w w' ∧ (∀ k, k ≠ i → D' k = D k) ∧ (∀ j, (D' i).s = .pr j → offersAt x0 (γ.K i).b true = []) ∧ (∀ p, (D' i).s = .ps p → offersAt x0 (γ.K i).c false = []) ∧
    ∃ x0', gs'[0]? = some x0' ∧ (x0' = x0.again w' ∨ (x0' = x0 ∧ (γ.wp = .reg → (∃ k, k < γ.n ∧ (D k).s ≠ .quit) → ∃ k, k < γ.n ∧ (D' k).s ≠ .quit)))

theorem rl_set {D : Nat → WD} {i n : Nat} {d : WD} (hi : i < n) (h : Rk.Lt d.rk (D i).rk) : RL n (fun k => ((setD D i d) k).rk) (fun k => (D k).rk) :=
  ⟨i, hi, by simpa only [setD_same] using h, fun k hk => by simp only [setD_ne D d hk]⟩

theorem again_or (P : Program) (a a' x : Goroutine) (w : World) : woken P a a' w x = x.again w ∨ woken P a a' w x = x := by
  unfold woken
  split
  · exact .inl rfl
  · exact .inr rfl

/-- A step of its own ends so. -/
theorem prog_own (_h : Conf P R N ty wg Sh γ O gs w t D) {i : Nat} (h1 : 1 ≤ i) (h2 : i < γ.n) {g g' x0 : Goroutine} {es : Array Event} {d : WD} {S : Nat → Prop} {sl : Option (Nat × Nat)} (hgi : gs[i]? = some g) (hx : gs[0]? = some x0)
    (hgo : stepG P false g w = .go g' w' es) (hchg : Chg S w w') (hSN : ∀ b, S b → N ≤ b) (hSO : ∀ b, S b → ¬ O b)
    (hc : Conf P R N ty wg Sh γ O ((gs.map (woken P g g' w')).setIfInBounds i g') w' (t ++ MemOp.ofEvents i g.frame.fn g.frame.place es) (setD D i d)) (hrk : Rk.Lt d.rk (D i).rk) (hnp : (∀ j, d.s ≠ .pr j) ∧ ∀ p, d.s ≠ .ps p)
    (hq : (mayWake P g = true ∧ g'.status = .running) ∨ d.s ≠ .quit ∨ (D i).s = .quit ∨ γ.wp ≠ .reg ∨ ∃ k, k < γ.n ∧ k ≠ i ∧ (D k).s ≠ .quit) : Prog P R N ty wg Sh γ O gs w sl t D i x0 := by
  refine ⟨_, w', _, _, runT_crowd_go hgi (by rw [show (i == 0) = false by simp; omega]; exact hgo), hc, rl_set h2 hrk, hchg.rl hSN hSO, fun k hk => setD_ne D d hk, fun j e => absurd (by rwa [setD_same] at e) (hnp.1 j), fun p e => absurd (by rwa [setD_same] at e) (hnp.2 p), woken P g g' w' x0, ?_, ?_⟩
  · rw [Array.getElem?_setIfInBounds_ne (by omega), Array.getElem?_map, hx]; rfl
  · rcases hq with ⟨e1, e2⟩ | hq
    · left; unfold woken; simp [e1, e2]
    · rcases again_or P g g' x0 w' with e | e
      · exact .inl e
      · refine .inr ⟨e, fun hw ⟨k, hk, hkq⟩ => ?_⟩
        rcases hq with hq | hq | hq | ⟨k', k1, k2, k3⟩
        · exact ⟨i, h2, by rw [setD_same]; exact hq⟩
        · by_cases e : k = i
          · subst e; exact absurd hq hkq
          · exact ⟨k, hk, by rw [setD_ne D d e]; exact hkq⟩
        · exact absurd hw hq
        · exact ⟨k', k1, by rw [setD_ne D d k2]; exact k3⟩
end
end Go.Proofs.Ytnmhgfeglfcbgaa
