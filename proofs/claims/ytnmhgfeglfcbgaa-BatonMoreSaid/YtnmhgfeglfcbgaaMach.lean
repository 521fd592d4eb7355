/-
  Proved here: each step of a worker's keeps what holds of the machine, and lowers its rank.
  Conditions: none beyond each law's own.
-/
import Derived.Test.YtnmhgfeglfcbgaaConf
namespace Go.Proofs.Ytnmhgfeglfcbgaa
open Go.Conc
open Go.ConcR (KK wgBlock WgAt stA smA rd wr mk DC0)
open Go.ConcN (WgLive sumTo)

section
variable {P : Program} {R : Nat → Prop} {N : Nat} {ty : TypeId} {wg : Nat} {Sh : Nat → Prop} {γ γ' : Gh} {O O' : Nat → Prop} {gs gs' : Array Goroutine} {w w' : World} {t u : Trace} {D D' : Nat → WD}

/-! ### Releases -/
theorem RelB.appG {k r : Nat} (h : RelB wg t k r) (hu : ∀ i op a, t.size ≤ i → (t ++ u)[i]? = some op → op.g = k → op.act.touch? = some a → inB (· = wg) a.loc ∧ a.kind = .atomic ∧ ¬ (t ++ u).heard i) : RelB wg (t ++ u) k r := by
  have hr : r < t.size := lt_of_act? h.act
  refine ⟨by rw [act?_old hr]; exact h.act, by rw [g?_old hr]; exact h.g, (heard_old hr).2 h.heard, fun i op a hi hop hg ha => ?_⟩
  rcases Nat.lt_or_ge i t.size with hlt | hge
  · rw [getElem?_append_old hlt] at hop
    rw [heard_old hlt]
    exact h.after i op a hi hop hg ha
  · exact hu i op a hge hop hg ha
theorem RelB.idle {k r : Nat} (h : RelB wg t k r) (hu : ∀ op ∈ u, op.g = k → op.act.touch? = none) : RelB wg (t ++ u) k r :=
  h.appG fun i op a hi hop hg ha => by
    rcases getElem?_append_cases hop with ⟨hlt, _⟩ | ⟨_, hm⟩
    · omega
    · rw [hu op hm hg] at ha; cases ha
/-- A step of its own: group cells, deaf. -/
theorem RelB.own {k r : Nat} (h : RelB wg t k r) (fn : FuncId) (pos : String) (es : Array Event)
    (hu : ∀ (j : Nat) e, es[j]? = some e → ∀ a, (MemAct.ofEvent e).touch? = some a → inB (· = wg) a.loc ∧ a.kind = .atomic ∧ 0 < deafBehind (Deaf t k) (es.extract 0 j)) : RelB wg (t ++ MemOp.ofEvents k fn pos es) k r :=
  h.appG fun i op a hi hop hg ha => by
    have hlt : i < t.size + es.size := by
      have := lt_size_of_getElem? hop
      rw [ofEvents_eq] at this
      simpa using this
    obtain ⟨e, he⟩ : ∃ e, es[i - t.size]? = some e := ⟨_, Array.getElem?_eq_getElem (by omega)⟩
    have hop' : { g := k, fn, pos, act := .ofEvent e } = op := by
      have hop2 := hop
      rw [Array.getElem?_append_right hi, ofEvents_eq, Array.getElem?_map, he] at hop2
      simpa using hop2
    subst hop'
    obtain ⟨h1, h2, h3⟩ := hu _ _ he a ha
    refine ⟨h1, h2, ?_⟩
    rintro ⟨g', hg', hd⟩
    have hg'' : g' = k := by
      have := hop
      simp only [Trace.g?, this, Option.map_some, Option.some.injEq] at hg'
      exact hg'.symm
    subst hg''
    have hin := deaf_inside t g' fn pos es (i - t.size) (by omega)
    rw [show t.size + (i - t.size) = i by omega] at hin
    rw [hin] at hd
    omega
/-- It says its release now. -/
theorem RelB.new {k : Nat} {fn : FuncId} {pos : String} (hd : Deaf t k = 0) : RelB wg (t ++ MemOp.ofEvents k fn pos #[Go.ConcR.mk (.releaseMerge (stA wg))]) k t.size := by
  have he : MemOp.ofEvents k fn pos #[Go.ConcR.mk (.releaseMerge (stA wg))] = #[{ g := k, fn, pos, act := .mark (.releaseMerge (stA wg)) }] := by simp [ofEvents_eq, Go.ConcR.mk, MemAct.ofEvent]
  rw [he]
  have hlast : (t ++ #[({ g := k, fn, pos, act := .mark (.releaseMerge (stA wg)) } : MemOp)])[t.size]? = some { g := k, fn, pos, act := .mark (.releaseMerge (stA wg)) } := by
    rw [Array.getElem?_append_right (Nat.le_refl _)]; simp
  refine ⟨by rw [act?_of hlast], by simp [Trace.g?], ⟨k, by simp [Trace.g?], by rw [deaf_old (Nat.le_refl _)]; exact hd⟩, fun i op a hi hop _ _ => ?_⟩
  have := lt_size_of_getElem? hop
  simp at this
  omega

theorem acqApp {n b : Nat} (h : ∃ q, t.act? q = some (.mark (.acquire (stA wg))) ∧ t.g? q = some 0 ∧ t.heard q ∧ ∀ i, b ≤ i → i < n → ∃ r, RelB wg t i r ∧ r < q)
    (hr : ∀ i r, b ≤ i → i < n → RelB wg t i r → RelB wg (t ++ u) i r) : ∃ q, (t ++ u).act? q = some (.mark (.acquire (stA wg))) ∧ (t ++ u).g? q = some 0 ∧ (t ++ u).heard q ∧ ∀ i, b ≤ i → i < n → ∃ r, RelB wg (t ++ u) i r ∧ r < q := by
  obtain ⟨q, h1, h2, h3, h4⟩ := h
  have hq := lt_of_act? h1
  exact ⟨q, by rw [act?_old hq]; exact h1, by rw [g?_old hq]; exact h2, (heard_old hq).2 h3, fun i hi hin => let ⟨r, hr1, hr2⟩ := h4 i hi hin; ⟨r, hr i r hi hin hr1, hr2⟩⟩

/-! ### Who is let try again -/
theorem Conf.still (h : Conf P R N ty wg Sh γ O gs w t D) {k : Nat} (h1 : 1 ≤ k) (h2 : k < γ.n) {x : Goroutine} (hx : gs[k]? = some x)
    (hw' : γ.base ≤ k → w'.heap[(γ.K k).b]? = w.heap[(γ.K k).b]? ∧ w'.heap[(γ.K k).c]? = w.heap[(γ.K k).c]?) (a a' : Goroutine) : woken P a a' w' x = x := by
  obtain ⟨g, hg, hs, _⟩ := h.wk k h1 h2
  rw [hx] at hg
  cases hg
  by_cases hq : (D k).s = .quit
  · unfold WSit at hs
    rw [hq] at hs
    obtain ⟨q, _, hq⟩ := hs
    exact woken_quitsD hq
  · have hb := h.actOf h1 h2 hq
    obtain ⟨e1, e2⟩ := hw' hb
    have hf := h.fit k hb h2
    unfold WSit at hs
    split at hs <;> rename_i e
    · unfold woken
      split
      · exact again_running _ (.inl hs.1.running)
      · rfl
    · obtain ⟨⟨g₂, z, rfl, _⟩, _⟩ := hs
      obtain ⟨s, r, hc⟩ := h.chb k hb h2
      rw [e] at hf
      have : (γ.m k).shutB = false := by
        cases hm : γ.m k <;> rw [hm] at hf <;> first | rfl | exact hf.elim
      rw [this] at hc
      exact woken_recv_open a a' (e1.trans hc)
    · obtain ⟨⟨g₂, z, p', v, rfl, _⟩, _⟩ := hs
      obtain ⟨s, r, hc⟩ := h.chc k hb h2
      rw [e] at hc
      exact woken_send_open a a' (e2.trans hc)
    · rename_i e; exact absurd e hq

/-! ### The group's state -/
theorem cnt_le (s : WSt) : s.cnt ≤ 1 := by
  cases s with
  | run p => cases p <;> simp [WSt.cnt]
  | _ => simp [WSt.cnt]
theorem quit_of {s : WSt} (h0 : s.cnt = 0) (ho : s.open = true) : s = .quit := by
  cases s with
  | run p => cases p <;> simp [WSt.cnt, WSt.open] at h0 ho
  | pr j => simp [WSt.cnt] at h0
  | ps p => simp [WSt.cnt] at h0
  | quit => rfl
theorem open_of {s : WSt} (h : s.cnt = 1) : s.open = true := by
  cases s with
  | run p => cases p <;> simp_all [WSt.cnt, WSt.open]
  | _ => rfl
theorem sumTo_set (D : Nat → WD) (d : WD) {i : Nat} : ∀ {n : Nat}, i < n → cntTo n (setD D i d) + (D i).s.cnt = cntTo n D + d.s.cnt
  | n + 1, h => by
    unfold cntTo
    simp only [sumTo]
    rcases Nat.lt_or_ge i n with hlt | hge
    · have := sumTo_set D d hlt
      unfold cntTo at this
      rw [setD_ne D d (show n ≠ i by omega)]
      omega
    · obtain rfl : i = n := by omega
      have : sumTo i (fun k => ((setD D i d) k).s.cnt) = sumTo i (fun k => (D k).s.cnt) := ConcN.sumTo_congr fun k hk => by rw [setD_ne D d (by omega)]
      rw [this, setD_same]
      omega
theorem cnt_pos {i n : Nat} (h : i < n) (hc : (D i).s.cnt = 1) : 1 ≤ cntTo n D := by
  have : (D i).s.cnt ≤ sumTo n (fun i => (D i).s.cnt) := ConcN.le_sumTo (f := fun i => (D i).s.cnt) h
  rw [hc] at this
  exact this
theorem cntTo_zero {n : Nat} (h : cntTo n D = 0) {i : Nat} (hi : i < n) : (D i).s.cnt = 0 := by
  have : (D i).s.cnt ≤ sumTo n (fun i => (D i).s.cnt) := ConcN.le_sumTo (f := fun i => (D i).s.cnt) hi
  unfold cntTo at h
  omega
theorem cntTo_bound {b : Nat} : ∀ {n : Nat}, (∀ i, i < b → i < n → (D i).s.cnt = 0) → cntTo n D ≤ n - b
  | 0, _ => by simp [cntTo, sumTo]
  | n + 1, h => by
    have ih := cntTo_bound (b := b) (n := n) fun i h1 h2 => h i h1 (by omega)
    unfold cntTo at ih ⊢
    simp only [sumTo]
    rcases Nat.lt_or_ge n b with hlt | hge
    · rw [h n hlt (by omega)]; omega
    · have := cnt_le (D n).s; omega

theorem Mode.same (h : Mode ty wg γ D w) {i : Nat} (hi : i < γ.n) {d : WD} (h1 : (D i).s.cnt = 1) (h2 : d.s.cnt = 1) (hw : w'.heap[wg]? = w.heap[wg]?) : Mode ty wg γ (setD D i d) w' := by
  have hc : cntTo γ.n (setD D i d) = cntTo γ.n D := by have := sumTo_set D d hi; omega
  have ho : (∀ k, k < γ.n → (D k).s.open = true) → ∀ k, k < γ.n → ((setD D i d) k).s.open = true := fun h k hk => by
    by_cases e : k = i
    · subst e; rw [setD_same]; exact open_of h2
    · rw [setD_ne D d e]; exact h k hk
  have hat : ∀ st sm, WgAt ty wg w st sm → WgAt ty wg w' st sm := fun st sm h => h.of_block hw
  have nq : (D i).s ≠ .quit := fun e => by rw [e] at h1; cases h1
  unfold Mode at h ⊢
  split at h
  · trivial
  · rw [hc]; exact ⟨ho h.1, hat _ _ h.2.1, h.2.2⟩
  · rw [hc]; exact ⟨ho h.1, hat _ _ h.2.1, h.2.2⟩
  · rw [hc]
    rcases h with h | ⟨l, _, hl, hq, _⟩ | ⟨l, _, hl, hq, _⟩ | ⟨hq, _⟩
    · exact .inl ⟨ho h.1, h.2.1, hat _ _ h.2.2⟩
    · exfalso
      by_cases e : i = l
      · subst e; rcases hl with hl | hl <;> rw [hl] at h1 <;> cases h1
      · exact nq (hq i hi e)
    · exfalso
      by_cases e : i = l
      · subst e; rw [hl] at h1; cases h1
      · exact nq (hq i hi e)
    · exact absurd (hq i hi) nq
  · exact absurd (h.1 i hi) nq

/-- What a worker may turn. -/
structure Sc (N : Nat) (wg : Nat) (γ : Gh) (O : Nat → Prop) (D : Nat → WD) (i : Nat) (S : Nat → Prop) : Prop where
  N : ∀ b, S b → N ≤ b
  d : ∀ k, Ac γ k → k ≠ i → ∀ b, S b → ¬ OwF O D k b
  b : ∀ k, γ.base ≤ k → k < γ.n → ¬ S (γ.K k).b
  c : ∀ k, γ.base ≤ k → k < γ.n → k ≠ i → ¬ S (γ.K k).c

theorem Conf.scOwn (h : Conf P R N ty wg Sh γ O gs w t D) {i : Nat} (hi : Ac γ i) : Sc N wg γ O D i (OwF O D i) :=
  ⟨h.own i hi, fun k hk hne b hb hb' => hne (h.ap.own k i b hk hi hb' hb), fun k h1 h2 => (h.chO k h1 h2 i hi).1, fun k h1 h2 _ => (h.chO k h1 h2 i hi).2⟩
theorem Conf.scChan (h : Conf P R N ty wg Sh γ O gs w t D) {i : Nat} (h1 : γ.base ≤ i) (h2 : i < γ.n) : Sc N wg γ O D i (· = (γ.K i).c) :=
  ⟨fun b e => by rw [e]; exact (h.chN i h1 h2).2.1, fun k hk _ b e hb => (h.chO i h1 h2 k hk).2 (e ▸ hb), fun k k1 k2 e => (h.chD k i k1 k2 h1 h2).1 e, fun k k1 k2 hne e => ((h.chD k i k1 k2 h1 h2).2 hne).2 e⟩
theorem Conf.scWg (h : Conf P R N ty wg Sh γ O gs w t D) (hw : γ.wp ≠ .off) (i : Nat) : Sc N wg γ O D i (· = wg) :=
  ⟨fun b e => by rw [e]; exact (h.shw hw).2, fun k hk _ b e hb => h.ap.ownSh k b hk hb (by rw [e]; exact (h.shw hw).1), fun k k1 k2 e => (h.chN k k1 k2).2.2.1 e, fun k k1 k2 _ e => (h.chN k k1 k2).2.2.2 e⟩

/-- A STEP OF ITS OWN, whatever it is. -/
theorem Conf.stepW (h : Conf P R N ty wg Sh γ O gs w t D) {i : Nat} (h1 : γ.base ≤ i) (h2 : i < γ.n) {g g' : Goroutine} {fn : FuncId} {pos : String} {es : Array Event} {d : WD} {S : Nat → Prop} (hgi : gs[i]? = some g)
    (hs : Sc N wg γ O D i S) (hchg : Chg S w w') (hsit : WSit P R N ty wg (γ.K i) d g' w') (hdeaf : deafBehind (D i).d es = d.d) (hfit : fits (γ.m i) d.s)
    (hcc : ∃ s r, w'.heap[(γ.K i).c]? = some (.chan 0 #[] d.s.shutC s r false))
    (hO : ∀ b, d.O b → (D i).O b ∨ (w.heap.size ≤ b ∧ b < w'.heap.size)) (hop : ∀ op ∈ MemOp.ofEvents i fn pos es, OkG i w.heap.size w'.heap.size (D i).O R Sh op)
    (hnr : ∀ e ∈ es, e.loc ≠ .mark (.release (stA wg))) (hrel : d.s.rel = true → ∃ r, RelB wg (t ++ MemOp.ofEvents i fn pos es) i r)
    (hrel2 : γ.acq = true → ∀ r, RelB wg t i r → RelB wg (t ++ MemOp.ofEvents i fn pos es) i r)
    (hmode : Mode ty wg γ (setD D i d) w') :
    Conf P R N ty wg Sh γ O ((gs.map (woken P g g' w')).setIfInBounds i g') w' (t ++ MemOp.ofEvents i fn pos es) (setD D i d) := by
  have hb1 := h.base1
  have hne : i ≠ 0 := by omega
  have hAc : Ac γ i := .inr ⟨h1, h2⟩
  have hug : ∀ op ∈ MemOp.ofEvents i fn pos es, op.g = i := fun op hop' => (hop op hop').1
  have relk : ∀ k r, k ≠ i → RelB wg t k r → RelB wg (t ++ MemOp.ofEvents i fn pos es) k r := fun k r hk hr => hr.idle fun op hop' e => absurd ((hug op hop').symm.trans e).symm hk
  have heap : ∀ b, b < w.heap.size → ¬ S b → w'.heap[b]? = w.heap[b]? := hchg.block
  refine h.next (i := i) (S := S) rfl rfl rfl id id (by simp) (fun k k1 k2 hki => ?_) (fun k hk => setD_ne D d hk) (fun e => absurd e hne) (fun _ => rfl) hchg hs.N
    (fun k k1 k2 hki b hb => by have := hs.d k (.inr ⟨k1, k2⟩) hki b hb; rwa [OwF_pos (by omega)] at this)
    (fun _ _ => ⟨g', by rw [Array.getElem?_setIfInBounds_self_of_lt (by simp [h.size]; omega)], by rw [setD_same]; exact hsit, ?_⟩) (fun _ hlt => by omega)
    (fun k k1 k2 hki => Deaf_other t (fun e => hki e.symm) _ hug) (by rw [Deaf_other t hne _ hug]; exact h.deaf0)
    (fun k k1 k2 => ?_) (fun k k1 k2 => ?_) (fun k k1 k2 => ?_) (fun b hb => ?_) ?_ (fun hw => (h.norel hw).app ?_) (fun k k1 k2 hr => ?_) (fun hacq => ?_) hmode
  · obtain ⟨x, hx, _⟩ := h.wk k k1 k2
    rw [Array.getElem?_setIfInBounds_ne (fun e => hki e.symm), Array.getElem?_map, hx, Option.map_some]
    refine congrArg some (h.still k1 k2 hx (fun hbk => ⟨?_, ?_⟩) g g')
    · obtain ⟨s, r, e⟩ := h.chb k hbk k2
      exact heap _ (Array.getElem?_eq_some_iff.1 e).1 (hs.b k hbk k2)
    · obtain ⟨s, r, e⟩ := h.chc k hbk k2
      exact heap _ (Array.getElem?_eq_some_iff.1 e).1 (hs.c k hbk k2 hki)
  · rw [setD_same, Deaf_own]
    obtain ⟨_, _, _, hd⟩ := h.wk i (by omega) h2
    rw [hd]; exact hdeaf
  · by_cases e : k = i
    · subst e; rw [setD_same]; exact hfit
    · rw [setD_ne D d e]; exact h.fit k k1 k2
  · obtain ⟨s, r, e⟩ := h.chb k k1 k2
    exact ⟨s, r, (heap _ (Array.getElem?_eq_some_iff.1 e).1 (hs.b k k1 k2)).trans e⟩
  · by_cases e : k = i
    · subst e; rw [setD_same]; exact hcc
    · rw [setD_ne D d e]
      obtain ⟨s, r, e'⟩ := h.chc k k1 k2
      exact ⟨s, r, (heap _ (Array.getElem?_eq_some_iff.1 e').1 (hs.c k k1 k2 e)).trans e'⟩
  · rw [OwF_pos (by omega), setD_same] at hb
    rw [OwF_pos (by omega)]
    exact hO b hb
  · refine h.ti.app h.ap hAc h2 hchg.size (by rw [OwF_pos (by omega)]; exact hop) (fun g' _ hg' b hb => ?_) fun b hb => ?_
    · unfold OwF at hb ⊢
      split <;> rename_i e
      · rw [if_pos e] at hb; exact hb
      · rw [if_neg e, setD_ne D d hg'] at hb; exact hb
    · rw [OwF_pos (by omega), setD_same] at hb
      rw [OwF_pos (by omega)]
      exact (hO b hb).imp id And.left
  · intro op hop' e
    obtain ⟨e', he', rfl⟩ := mem_ofEvents hop'
    have := hnr e' he'
    obtain ⟨loc, wr, sy⟩ := e'
    cases loc with
    | mark m => exact this (by simpa [MemAct.ofEvent] using e)
    | obj c => cases wr <;> cases sy <;> simp [MemAct.ofEvent] at e
    | _ => simp [MemAct.ofEvent] at e
  · by_cases e : k = i
    · subst e; rw [setD_same] at hr; exact hrel hr
    · rw [setD_ne D d e] at hr
      obtain ⟨r, hr⟩ := h.rel k k1 k2 hr
      exact ⟨r, relk k r e hr⟩
  · obtain ⟨hf, hq⟩ := h.acq hacq
    refine ⟨hf, acqApp hq fun k r k1 k2 hr => ?_⟩
    by_cases e : k = i
    · subst e; exact hrel2 hacq r hr
    · exact relk k r e hr
end
end Go.Proofs.Ytnmhgfeglfcbgaa
