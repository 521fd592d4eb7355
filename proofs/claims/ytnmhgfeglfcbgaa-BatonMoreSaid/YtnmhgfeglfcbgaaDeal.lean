/-
  Proved here: the starter's steps: its own work; the library's words; the wait group's Add and Wait.
  Conditions: none beyond each law's own.
-/
import Derived.Test.YtnmhgfeglfcbgaaLead
namespace Go.Proofs.Ytnmhgfeglfcbgaa
open Go.Conc
open Go.ConcR (KK wgBlock WgAt stA smA rd wr DC0)
open Go.ConcN (WgLive sumTo)

section
variable {P : Program} {Post : Value → World → Prop} {R : Nat → Prop} {N : Nat} {ty : TypeId} {wg : Nat} {γ γ' : Gh} {O O' : Nat → Prop} {w w' : World} {g : Goroutine}

theorem Well.go (hs : g.status = .running) (H : ∀ w₁ Sh gs t D, Rl N O w w₁ → gs[0]? = some g → Conf P R N ty wg Sh γ O gs w₁ t D →
    ∃ g' w' es O' γ', stepG P true g w₁ = .go g' w' es ∧ Conf P R N ty wg Sh γ' O' ((gs.map (woken P g g' w')).setIfInBounds 0 g') w' (t ++ MemOp.ofEvents 0 g.frame.fn g.frame.place es) D ∧ Well P Post R N ty wg O' γ' g' w') :
    Well P Post R N ty wg O γ g w := by
  intro Sh gs t sl D hx h
  refine pick0 hs (fun w₁ Sh gs t sl D hR hx h => ?_) Sh gs t sl D hx h
  obtain ⟨g', w', es, O', γ', hgo, hc, hw⟩ := H w₁ Sh gs t D hR hx h
  have hlt : 0 < gs.size := (Array.getElem?_eq_some_iff.1 hx).1
  exact .inl ⟨_, _, step0_go hx hgo, hw Sh _ _ sl D (by rw [Array.getElem?_setIfInBounds_self_of_lt (by simpa using hlt)]) hc⟩

theorem Well.rely (h : Well P Post R N ty wg O γ g w) : Well P Post R N ty wg O γ g w := h

/-- Its own work. -/
theorem Well.silent (hs : g.status = .running) (H : ∀ w₁, N ≤ w₁.heap.size → Rl N O w w₁ → ∃ g' w' es, stepG P true g w₁ = .go g' w' es ∧ Kept R O w₁ w' es ∧ Well P Post R N ty wg (fun k => O k ∨ (w₁.heap.size ≤ k ∧ k < w'.heap.size)) γ g' w') :
    Well P Post R N ty wg O γ g w := by
  refine Well.go hs fun w₁ Sh gs t D hR hx h => ?_
  obtain ⟨g', w', es, hgo, hk, hw⟩ := H w₁ h.sz hR
  refine ⟨g', w', es, _, γ, hgo, ?_, hw⟩
  have hchg : Chg O w₁ w' := ⟨hk.os, hk.tape, hk.output, hk.size, hk.block⟩
  refine h.step0 hx rfl rfl rfl rfl id id hchg (fun b hb => h.own 0 (.inl rfl) b hb) (fun k k1 k2 b hb hb' => ?_) (fun k k1 k2 => h.chO k k1 k2 0 (.inl rfl)) (fun b hb => hb) (fun op hop => ?_) (deafBehind_none fun e he => ⟨(hk.evs e he).noMark.1, (hk.evs e he).noMark.2.1⟩)
    (fun e he => (hk.evs e he).noMark.2.2 _) (fun ha => h.acqKeep ha) ?_
  · have hb1 := h.base1
    have := h.ap.own 0 k b (.inl rfl) (.inr ⟨k1, k2⟩) hb (by rw [OwF_pos (by omega)]; exact hb')
    omega
  · obtain ⟨e, he, rfl⟩ := mem_ofEvents hop
    exact (hk.evs e he).ok 0 _ _ Sh
  · by_cases hw' : γ.wp = .off
    · unfold Mode; rw [hw']; trivial
    · exact h.mode.congr (fun _ => rfl) (h.wgOf hw' hchg fun e => h.ap.ownSh 0 wg (.inl rfl) e (h.shw hw').1)

/-- All is well with the starter. -/
def BM (P : Program) (Post : Value → World → Prop) (w0 : WR) (ty : TypeId) (wg : Nat) : Bs P where
  w0 := w0
  Γ := Gh
  main := true
  B := fun O γ g w => Well P Post w0.R w0.heap.size ty wg O γ g w
  step := fun _ _ _ _ hs h => Well.silent hs h

/-- A step on the group, or a word of the library's. -/
theorem Conf.grp0 {Sh : Nat → Prop} {gs : Array Goroutine} {t : Trace} {D : Nat → WD} (h : Conf P R N ty wg Sh γ O gs w t D) {g' : Goroutine} {fn : FuncId} {pos : String} {es : Array Event} (hx : gs[0]? = some g) (hnoff : γ.wp ≠ .off)
    (hb : γ'.base = γ.base) (hn : γ'.n = γ.n) (hK : γ'.K = γ.K) (hm : γ'.m = γ.m) (hoff' : γ'.wp ≠ .off) (hchg : Chg (· = wg) w w')
    (hes : ∀ e ∈ es, ∀ x, (MemAct.ofEvent e).touch? = some x → inB (· = wg) x.loc ∧ x.kind ≠ .plain) (hnr : ∀ e ∈ es, e.loc ≠ .mark (.release (stA wg))) (hdeaf : deafBehind γ.deaf es = γ'.deaf)
    (hacq : γ'.acq = true → γ'.wp = .fin ∧ ∃ q, (t ++ MemOp.ofEvents 0 fn pos es).act? q = some (.mark (.acquire (stA wg))) ∧ (t ++ MemOp.ofEvents 0 fn pos es).g? q = some 0 ∧ (t ++ MemOp.ofEvents 0 fn pos es).heard q ∧
      ∀ i, γ.base ≤ i → i < γ.n → ∃ r, RelB wg (t ++ MemOp.ofEvents 0 fn pos es) i r ∧ r < q)
    (hmode : Mode ty wg γ' D w') : Conf P R N ty wg Sh γ' O ((gs.map (woken P g g' w')).setIfInBounds 0 g') w' (t ++ MemOp.ofEvents 0 fn pos es) D := by
  have hb1 := h.base1
  obtain ⟨hsh, hN⟩ := h.shw hnoff
  refine h.step0 hx hb hn hK hm (fun _ => hnoff) (fun e => absurd e hoff') hchg (fun b e => by rw [e]; exact hN) (fun k k1 k2 b e hb' => ?_) (fun k k1 k2 => ⟨(h.chN k k1 k2).2.2.1, (h.chN k k1 k2).2.2.2⟩) (fun b hb => .inl hb) (fun op hop => ?_) hdeaf hnr hacq hmode
  · have e : b = wg := e
    exact h.ap.ownSh k b (.inr ⟨k1, k2⟩) (by rw [OwF_pos (by omega)]; exact hb') (by rw [e]; exact hsh)
  · obtain ⟨e, he, rfl⟩ := mem_ofEvents hop
    refine ⟨rfl, fun x hx => .inl ?_⟩
    obtain ⟨⟨a, e1, e2⟩, e3⟩ := hes e he x hx
    exact ⟨⟨a, e1, by rw [e2]; exact hsh⟩, e3, fun _ => rfl⟩

theorem Well.word {es : Array Event} (hs : g.status = .running) (hnoff : γ.wp ≠ .off) (hes : ∀ e ∈ es, ∀ x, (MemAct.ofEvent e).touch? = some x → inB (· = wg) x.loc ∧ x.kind ≠ .plain) (hnr : ∀ e ∈ es, e.loc ≠ .mark (.release (stA wg)))
    (H : ∀ w₁, Rl N O w w₁ → WgLive ty wg w₁ → ∃ g', stepG P true g w₁ = .go g' w₁ es ∧ Well P Post R N ty wg O { γ with deaf := deafBehind γ.deaf es } g' w₁) : Well P Post R N ty wg O γ g w := by
  refine Well.go hs fun w₁ Sh gs t D hR hx h => ?_
  obtain ⟨g', hgo, hw⟩ := H w₁ hR (h.mode.live hnoff)
  exact ⟨g', w₁, es, O, _, hgo, h.grp0 (γ' := { γ with deaf := deafBehind γ.deaf es }) hx hnoff rfl rfl rfl rfl hnoff (Chg.refl _ _) hes hnr rfl (fun ha => h.acqKeep ha) h.mode, hw⟩

theorem evRd {a : Addr} (ha : a.block = wg) : ∀ x, (MemAct.ofEvent (rd a)).touch? = some x → inB (· = wg) x.loc ∧ x.kind ≠ .plain := fun x hx => by
  obtain ⟨e1, e2⟩ := rd_touch hx
  exact ⟨⟨a, e1, ha⟩, by rw [e2]; simp⟩
theorem evWr {a : Addr} (ha : a.block = wg) : ∀ x, (MemAct.ofEvent (wr a)).touch? = some x → inB (· = wg) x.loc ∧ x.kind ≠ .plain := fun x hx => by
  obtain ⟨e1, e2⟩ := wr_touch hx
  exact ⟨⟨a, e1, ha⟩, by rw [e2]; simp⟩
theorem evRW {es : Array Event} (hes : ∀ e ∈ es, e = rd (stA wg) ∨ e = wr (stA wg)) : (∀ e ∈ es, ∀ x, (MemAct.ofEvent e).touch? = some x → inB (· = wg) x.loc ∧ x.kind ≠ .plain) ∧ (∀ e ∈ es, e.loc ≠ .mark (.release (stA wg))) ∧ ∀ d, deafBehind d es = d :=
  ⟨fun e he x hx => by
    rcases hes e he with rfl | rfl
    · exact evRd rfl x hx
    · exact evWr rfl x hx, fun e he => by rcases hes e he with rfl | rfl <;> simp [rd, wr],
    fun d => deafBehind_none fun e he => by rcases hes e he with rfl | rfl <;> simp [rd, wr]⟩

/-- THE ATOMIC ADD OF +1. -/
theorem Well.add (hs : g.status = .running) (hwp : γ.wp = .opn) (hp : γ.pend = 0)
    (H : ∀ w₁ (v : Nat), Rl N O w w₁ → v < 2147483647 → WgAt ty wg w₁ (v * KK) 0 → ∃ g', stepG P true g w₁ = .go g' (w₁.setCell (stA wg) (.int .u64 ((v + 1) * KK))) #[rd (stA wg), wr (stA wg)] ∧
      Well P Post R N ty wg O { γ with pend := 1 } g' (w₁.setCell (stA wg) (.int .u64 ((v + 1) * KK)))) : Well P Post R N ty wg O γ g w := by
  refine Well.go hs fun w₁ Sh gs t D hR hx h => ?_
  have hmode := h.mode
  unfold Mode at hmode
  rw [hwp] at hmode
  obtain ⟨ho, hat, _⟩ := hmode
  rw [hp, Nat.add_zero] at hat
  have hB := h.cntB
  obtain ⟨g', hgo, hw⟩ := H w₁ _ hR (by omega) hat
  obtain ⟨k1, k2, k3⟩ := evRW (wg := wg) (es := #[rd (stA wg), wr (stA wg)]) (fun e he => by simpa using he)
  refine ⟨g', _, _, O, _, hgo, h.grp0 (γ' := { γ with pend := 1 }) hx (by rw [hwp]; simp) rfl rfl rfl rfl (by show γ.wp ≠ .off; rw [hwp]; simp) (setCell_chg w₁ (stA wg) _) k1 k2 (k3 _) (fun ha => h.acqKeep ha) ?_, hw⟩
  unfold Mode
  simp only [hwp]
  refine ⟨ho, ?_, Nat.le_refl _⟩
  have := hat.setSt ((((cntTo γ.n D : Nat) : Int) + 1) * KK)
  rw [show (((cntTo γ.n D + 1 : Nat) : Int)) = ((cntTo γ.n D : Nat) : Int) + 1 by omega]
  exact this

/-- Wait's first look. -/
theorem Well.look (hs : g.status = .running) (hwp : γ.wp = .opn) (hp : γ.pend = 0)
    (H : ∀ w₁ (v : Nat), Rl N O w w₁ → v < 2147483648 → WgAt ty wg w₁ (v * KK) 0 → ∃ g', stepG P true g w₁ = .go g' w₁ #[rd (stA wg)] ∧
      (v = 0 → Well P Post R N ty wg O { γ with wp := .fin } g' w₁) ∧ (v ≠ 0 → Well P Post R N ty wg O { γ with wp := .seen v } g' w₁)) : Well P Post R N ty wg O γ g w := by
  refine Well.go hs fun w₁ Sh gs t D hR hx h => ?_
  have hmode := h.mode
  unfold Mode at hmode
  rw [hwp] at hmode
  obtain ⟨ho, hat, _⟩ := hmode
  rw [hp, Nat.add_zero] at hat
  have hB := h.cntB
  obtain ⟨g', hgo, hw0, hw1⟩ := H w₁ _ hR (by omega) hat
  obtain ⟨k1, k2, k3⟩ := evRW (wg := wg) (es := #[rd (stA wg)]) (fun e he => .inl (by simpa using he))
  have hacq : γ.acq = true → False := fun ha => by have := (h.acq ha).1; rw [hwp] at this; cases this
  by_cases hv : cntTo γ.n D = 0
  · refine ⟨g', _, _, O, _, hgo, h.grp0 (γ' := { γ with wp := .fin }) hx (by rw [hwp]; simp) rfl rfl rfl rfl (by simp) (Chg.refl _ _) k1 k2 (k3 _) (fun ha => (hacq ha).elim) ?_, hw0 hv⟩
    unfold Mode
    rw [hv] at hat
    exact ⟨fun i hi => quit_of (cntTo_zero hv hi) (ho i hi), by simpa using hat⟩
  · refine ⟨g', _, _, O, _, hgo, h.grp0 (γ' := { γ with wp := .seen (cntTo γ.n D) }) hx (by rw [hwp]; simp) rfl rfl rfl rfl (by simp) (Chg.refl _ _) k1 k2 (k3 _) (fun ha => (hacq ha).elim) ?_, hw1 hv⟩
    unfold Mode
    exact ⟨ho, hat, Nat.le_refl _⟩

/-- Wait registers, or has been overtaken. -/
theorem Well.cas {vs : Nat} (hs : g.status = .running) (hwp : γ.wp = .seen vs) (hv2 : 1 ≤ vs)
    (H : ∀ w₁ (v : Nat), Rl N O w w₁ → v < 2147483648 → WgAt ty wg w₁ (v * KK) 0 →
      (v = vs → ∃ g', stepG P true g w₁ = .go g' (w₁.setCell (stA wg) (.int .u64 (v * KK + 1))) #[rd (stA wg), wr (stA wg)] ∧ Well P Post R N ty wg O { γ with wp := .reg } g' (w₁.setCell (stA wg) (.int .u64 (v * KK + 1)))) ∧
      (v ≠ vs → ∃ g', stepG P true g w₁ = .go g' w₁ #[rd (stA wg)] ∧ Well P Post R N ty wg O { γ with wp := .seen (vs - 1) } g' w₁)) : Well P Post R N ty wg O γ g w := by
  refine Well.go hs fun w₁ Sh gs t D hR hx h => ?_
  have hmode := h.mode
  unfold Mode at hmode
  rw [hwp] at hmode
  obtain ⟨ho, hat, hv1⟩ := hmode
  have hB := h.cntB
  obtain ⟨h1, h2⟩ := H w₁ _ hR (by omega) hat
  have hacq : γ.acq = true → False := fun ha => by have := (h.acq ha).1; rw [hwp] at this; cases this
  by_cases hv : cntTo γ.n D = vs
  · obtain ⟨g', hgo, hw⟩ := h1 hv
    obtain ⟨k1, k2, k3⟩ := evRW (wg := wg) (es := #[rd (stA wg), wr (stA wg)]) (fun e he => by simpa using he)
    refine ⟨g', _, _, O, _, hgo, h.grp0 (γ' := { γ with wp := .reg }) hx (by rw [hwp]; simp) rfl rfl rfl rfl (by simp) (setCell_chg w₁ (stA wg) _) k1 k2 (k3 _) (fun ha => (hacq ha).elim) ?_, hw⟩
    unfold Mode
    exact .inl ⟨ho, by show 1 ≤ cntTo γ.n D; rw [hv]; exact hv2, hat.setSt _⟩
  · obtain ⟨g', hgo, hw⟩ := h2 hv
    obtain ⟨k1, k2, k3⟩ := evRW (wg := wg) (es := #[rd (stA wg)]) (fun e he => .inl (by simpa using he))
    refine ⟨g', _, _, O, _, hgo, h.grp0 (γ' := { γ with wp := .seen (vs - 1) }) hx (by rw [hwp]; simp) rfl rfl rfl rfl (by simp) (Chg.refl _ _) k1 k2 (k3 _) (fun ha => (hacq ha).elim) ?_, hw⟩
    exact ⟨ho, hat, by show cntTo γ.n D ≤ vs - 1; omega⟩

/-- Wait looks again. -/
theorem Well.again {b : Nat} (hs : g.status = .running) (hwp : γ.wp = .seen b)
    (H : ∀ w₁ (v : Nat), Rl N O w w₁ → v < 2147483648 → v ≤ b → WgAt ty wg w₁ (v * KK) 0 → ∃ g', stepG P true g w₁ = .go g' w₁ #[rd (stA wg)] ∧
      (v = 0 → Well P Post R N ty wg O { γ with wp := .fin } g' w₁) ∧ (v ≠ 0 → Well P Post R N ty wg O { γ with wp := .seen v } g' w₁)) : Well P Post R N ty wg O γ g w := by
  refine Well.go hs fun w₁ Sh gs t D hR hx h => ?_
  have hmode := h.mode
  unfold Mode at hmode
  rw [hwp] at hmode
  obtain ⟨ho, hat, hb⟩ := hmode
  have hB := h.cntB
  obtain ⟨g', hgo, hw0, hw1⟩ := H w₁ _ hR (by omega) hb hat
  obtain ⟨k1, k2, k3⟩ := evRW (wg := wg) (es := #[rd (stA wg)]) (fun e he => .inl (by simpa using he))
  have hacq : γ.acq = true → False := fun ha => by have := (h.acq ha).1; rw [hwp] at this; cases this
  by_cases hv : cntTo γ.n D = 0
  · refine ⟨g', _, _, O, _, hgo, h.grp0 (γ' := { γ with wp := .fin }) hx (by rw [hwp]; simp) rfl rfl rfl rfl (by simp) (Chg.refl _ _) k1 k2 (k3 _) (fun ha => (hacq ha).elim) ?_, hw0 hv⟩
    unfold Mode
    rw [hv] at hat
    exact ⟨fun i hi => quit_of (cntTo_zero hv hi) (ho i hi), by simpa using hat⟩
  · refine ⟨g', _, _, O, _, hgo, h.grp0 (γ' := { γ with wp := .seen (cntTo γ.n D) }) hx (by rw [hwp]; simp) rfl rfl rfl rfl (by simp) (Chg.refl _ _) k1 k2 (k3 _) (fun ha => (hacq ha).elim) ?_, hw1 hv⟩
    unfold Mode
    exact ⟨ho, hat, Nat.le_refl _⟩

/-- Wait's last look. -/
theorem Well.seenDone (hs : g.status = .running) (hwp : γ.wp = .fin) (H : ∀ w₁, Rl N O w w₁ → WgAt ty wg w₁ 0 0 → ∃ g', stepG P true g w₁ = .go g' w₁ #[rd (stA wg)] ∧ Well P Post R N ty wg O γ g' w₁) : Well P Post R N ty wg O γ g w := by
  refine Well.go hs fun w₁ Sh gs t D hR hx h => ?_
  have hmode := h.mode
  unfold Mode at hmode
  rw [hwp] at hmode
  obtain ⟨g', hgo, hw⟩ := H w₁ hR hmode.2
  obtain ⟨k1, k2, k3⟩ := evRW (wg := wg) (es := #[rd (stA wg)]) (fun e he => .inl (by simpa using he))
  exact ⟨g', _, _, O, γ, hgo, h.grp0 hx (by rw [hwp]; simp) rfl rfl rfl rfl (by rw [hwp]; simp) (Chg.refl _ _) k1 k2 (k3 _) (fun ha => h.acqKeep ha) h.mode, hw⟩

/-- Wait acquires: all that the workers have done is known. -/
theorem Well.acquire (hs : g.status = .running) (hwp : γ.wp = .fin) (hd : γ.deaf = 0) (H : ∀ w₁, Rl N O w w₁ → WgLive ty wg w₁ → ∃ g', stepG P true g w₁ = .go g' w₁ #[Go.ConcR.mk (.acquire (stA wg))] ∧ Well P Post R N ty wg O { γ with acq := true } g' w₁) :
    Well P Post R N ty wg O γ g w := by
  refine Well.go hs fun w₁ Sh gs t D hR hx h => ?_
  have hmode := h.mode
  unfold Mode at hmode
  rw [hwp] at hmode
  obtain ⟨g', hgo, hw⟩ := H w₁ hR ⟨_, _, hmode.2⟩
  have hm1 : ∀ e ∈ #[Go.ConcR.mk (.acquire (stA wg))], e = Go.ConcR.mk (.acquire (stA wg)) := fun e he => by simpa using he
  have hops : MemOp.ofEvents 0 g.frame.fn g.frame.place #[Go.ConcR.mk (.acquire (stA wg))] = #[{ g := 0, fn := g.frame.fn, pos := g.frame.place, act := .mark (.acquire (stA wg)) }] := by simp [ofEvents_eq, Go.ConcR.mk, MemAct.ofEvent]
  have hb1 := h.base1
  refine ⟨g', _, _, O, _, hgo, h.grp0 (γ' := { γ with acq := true }) hx (by rw [hwp]; simp) rfl rfl rfl rfl (by show γ.wp ≠ .off; rw [hwp]; simp) (Chg.refl _ _) (fun e he x hx => ?_) (fun e he => ?_) ?_ (fun _ => ⟨hwp, ?_⟩) ?_, hw⟩
  · rw [hm1 e he] at hx
    simp [Go.ConcR.mk, MemAct.ofEvent, MemAct.touch?] at hx
  · rw [hm1 e he]; simp [Go.ConcR.mk]
  · exact deafBehind_none fun e he => by rw [hm1 e he]; simp [Go.ConcR.mk]
  · rw [hops]
    have hlast : (t ++ #[({ g := 0, fn := g.frame.fn, pos := g.frame.place, act := .mark (.acquire (stA wg)) } : MemOp)])[t.size]? = some { g := 0, fn := g.frame.fn, pos := g.frame.place, act := .mark (.acquire (stA wg)) } := by
      rw [Array.getElem?_append_right (Nat.le_refl _)]; simp
    refine ⟨t.size, by rw [act?_of hlast], by simp [Trace.g?], ⟨0, by simp [Trace.g?], by rw [deaf_old (Nat.le_refl _)]; exact h.deaf0.trans hd⟩, fun i i1 i2 => ?_⟩
    obtain ⟨r, hr⟩ := h.rel i i1 i2 (by rw [hmode.1 i i2]; rfl)
    exact ⟨r, hr.idle fun op hop e => (by simp at hop; subst hop; simp only at e; omega), lt_of_act? hr.act⟩
  · have := h.mode
    unfold Mode at this ⊢
    simp only [hwp] at this ⊢
    exact this

/-- What is so of the group while it is open. -/
theorem Well.free (hnoff : γ.wp ≠ .off) (H : ¬ O wg → N ≤ wg → IW N O ty wg w w → Well P Post R N ty wg O γ g w) : Well P Post R N ty wg O γ g w :=
  fun Sh gs t sl D hx h => H (fun e => h.ap.ownSh 0 wg (.inl rfl) e (h.shw hnoff).1) (h.shw hnoff).2 ⟨Rl.refl _ _ _, h.sz, h.mode.live hnoff⟩ Sh gs t sl D hx h

/-- A quiet stretch, up to where all is well. -/
theorem Well.walk (hnoff : γ.wp ≠ .off) {m : Nat} : ∀ {g : Goroutine} {w : World}, Goes P true (IW N O ty wg) DC0 (fun g w => Well P Post R N ty wg O γ g w) m g w → Well P Post R N ty wg O γ g w := by
  induction m with
  | zero => exact fun {g w} h => Well.free hnoff fun _ _ r => h w r
  | succ m ih =>
    intro g w h
    rcases h with h | ⟨hs, h⟩
    · exact Well.free hnoff fun _ _ r => h w r
    · refine Well.go hs fun w₁ Sh gs t D hR hx hc => ?_
      have := h w₁ ⟨hR, hc.sz, hc.mode.live hnoff⟩
      cases hst : stepG P true g w₁ with
      | go g' w' es =>
        rw [hst] at this
        simp only [goes_go] at this
        obtain ⟨⟨rfl, rfl⟩, hG⟩ := this
        exact ⟨g', w', #[], O, γ, rfl, hc.grp0 (γ' := γ) hx hnoff rfl rfl rfl rfl hnoff (Chg.refl _ _) (by simp) (by simp) rfl (fun ha => hc.acqKeep ha) hc.mode, ih hG⟩
      | _ => rw [hst] at this; exact this.elim
end
end Go.Proofs.Ytnmhgfeglfcbgaa
