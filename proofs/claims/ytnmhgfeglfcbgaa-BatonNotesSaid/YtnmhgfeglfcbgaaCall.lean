/-
  Proved here: how a call that starts workers begins and ends inside a run of the starter's; the return; the start.
  Conditions: none beyond each law's own.
-/
import Derived.Conc.CrowdStepC
import Derived.Test.YtnmhgfeglfcbgaaOpen
namespace Go.Proofs.Ytnmhgfeglfcbgaa
open Go.Conc
open Go.ConcR (KK wgBlock WgAt stA smA rd wr DC0)
open Go.ConcN (WgLive sumTo)

section
variable {P : Program} {Post : Value → World → Prop} {R : Nat → Prop} {N : Nat} {ty : TypeId} {wg : Nat} {Sh : Nat → Prop} {γ γ' : Gh} {O O' : Nat → Prop} {gs gs' : Array Goroutine} {w w' : World} {t u : Trace} {D D' : Nat → WD} {g : Goroutine}

/-- Nobody is at work but the starter. -/
def offGh (n : Nat) : Gh := { base := n, n := n, K := fun _ => ⟨0, 0, fun _ => undef, fun _ => undef, 0⟩, m := fun _ => .gone, pend := 0, deaf := 0, wp := .off, acq := false }
/-- A group is there; nobody is started. -/
def opnGh (n : Nat) : Gh := { offGh n with wp := .opn }

theorem WSit.other {R' : Nat → Prop} {N' ty' wg' : Nat} {K K' : WK} {d : WD} {g : Goroutine} (h : WSit P R N ty wg K d g w) (hq : d.s = .quit) : WSit P R' N' ty' wg' K' d g w' := by
  unfold WSit at h ⊢
  rw [hq] at h ⊢
  exact h

theorem Ac_off (n : Nat) : Ac (offGh n) = (· = 0) := by
  funext k
  simp only [Ac, offGh]
  exact propext ⟨fun e => by omega, .inl⟩
theorem Ac_opn (n : Nat) : Ac (opnGh n) = (· = 0) := by
  funext k
  simp only [Ac, opnGh, offGh]
  exact propext ⟨fun e => by omega, .inl⟩

/-- A CALL BEGINS: the group is made. -/
theorem Well.enter {n : Nat} (hs : g.status = .running)
    (H : ∀ w₁, N ≤ w₁.heap.size → Rl N O w w₁ → ∃ g', stepG P true g w₁ = .go g' (w₁.alloc (wgBlock ty 0 0)) #[] ∧
      Well P Post (fun k => O k ∨ R k) w₁.heap.size ty w₁.heap.size (fun _ => False) (opnGh n) g' (w₁.alloc (wgBlock ty 0 0))) : Well P Post R N ty wg O (offGh n) g w := by
  intro Sh gs t sl D hx h
  refine pick0 hs (fun w₁ Sh gs t sl D hR hx h => ?_) Sh gs t sl D hx h
  obtain ⟨g', hgo, hw⟩ := H w₁ h.sz hR
  have hb1 := h.base1
  have h0 : 0 < gs.size := (Array.getElem?_eq_some_iff.1 hx).1
  have quit : ∀ k, 1 ≤ k → k < n → (D k).s = .quit := fun k k1 k2 => h.lv k k1 k2
  have hAc := h.ti
  rw [Ac_off] at hAc
  have hap := h.ap
  rw [Ac_off] at hap
  refine .inl ⟨_, _, step0_go hx hgo, hw (fun k => Sh k ∨ k = w₁.heap.size) _ _ sl D (by rw [Array.getElem?_setIfInBounds_self_of_lt (by simpa using h0)]) ?_⟩
  rw [show MemOp.ofEvents 0 g.frame.fn g.frame.place #[] = #[] from rfl, Array.append_empty]
  have hO0 : ∀ b, O b → OwF O D 0 b := fun b hb => hb
  have cn : ∀ i, i < n → (D i).s.cnt = 0 := fun i hi => by
    rcases Nat.eq_zero_or_pos i with rfl | h0
    · rw [h.zero]; rfl
    · rw [quit i h0 hi]; rfl
  have hcnt : cntTo n D = 0 := by
    have := ConcN.sumTo_le (f := fun k => (D k).s.cnt) (c := 0) (j := n) fun k hk => by simp only [cn k hk]; exact Nat.le_refl _
    unfold cntTo; omega
  refine ⟨by simp; exact h.size, h.base1, Nat.le_refl _, fun e => (by cases e), by show n - n ≤ 1000000; omega, by simp, h.zero, fun i i1 i2 => quit i i1 i2, fun i i1 i2 => ?_, fun i i1 i2 => ?_, fun i i1 i2 => ?_, fun i i1 i2 => ?_, fun i i1 i2 => ?_, fun i i1 i2 => ?_, fun i k i1 i2 => ?_, ?_, ?_, ?_, fun _ => ⟨.inr rfl, Nat.le_refl _⟩, h.deaf0, fun _ => ?_, fun i i1 i2 => ?_, fun ha => (by cases ha), ?_⟩
  · obtain ⟨x, hxi, hsi, hdi⟩ := h.wk i i1 i2
    refine ⟨x, ?_, hsi.other (quit i i1 i2), hdi⟩
    rw [Array.getElem?_setIfInBounds_ne (by omega), Array.getElem?_map, hxi, Option.map_some]
    exact congrArg some (h.still i1 i2 hxi (fun hb => by have : n ≤ i := hb; have : i < n := i2; omega) g g')
  all_goals try (exfalso; have : n ≤ i := i1; have : i < n := i2; omega)
  · rw [Ac_opn]
    rintro k rfl b hb
    exact hb.elim
  · rw [Ac_opn]
    refine ⟨?_, ?_, ?_, ?_, fun b hb hb' => ?_, fun b hb => ?_, fun b hb => ?_⟩
    · rintro k k' b rfl rfl _ _; rfl
    · rintro k b rfl hb; exact hb.elim
    · rintro k b rfl hb; exact hb.elim
    · rintro k b rfl hb; exact hb.elim
    · have hlt : b < w₁.heap.size := hb.elim (fun e => hap.lt 0 b rfl e) (hap.rdLt b)
      rcases hb' with hb' | rfl
      · exact hb.elim (fun e => hap.ownSh 0 b rfl e hb') (fun e => hap.rdSh b e hb')
      · omega
    · have hlt : b < w₁.heap.size := hb.elim (fun e => hap.lt 0 b rfl e) (hap.rdLt b)
      simp; omega
    · rcases hb with hb | rfl
      · have := hap.shLt b hb; simp; omega
      · simp
  · rw [Ac_opn]
    refine ⟨hAc.nr, hAc.gs, fun i a ha => (hAc.cell i a ha).imp (fun ⟨ad, e1, e2⟩ => ⟨ad, e1, by simp; omega⟩) id, ?_, ?_, ?_, fun i op a hi ha hn => ?_⟩
    · rintro k rfl l ⟨ad, _, hb⟩; exact hb.elim
    · rintro k rfl l ⟨ad, e1, hb⟩
      rcases hb with hb | hb
      · exact ConcN.PermW.of (hAc.own 0 rfl l ⟨ad, e1, hb⟩)
      · exact hAc.rd 0 rfl l ⟨ad, e1, hb⟩
    · rintro i op x hi hx ⟨ad, e1, hb | hb⟩
      · exact hAc.sh i op x hi hx ⟨ad, e1, hb⟩
      · exfalso
        rcases hAc.cell i x (by rw [touchAt_of hi]; exact hx) with ⟨ad', e2, e3⟩ | ⟨e2, _⟩
        · rw [e1] at e2; cases e2; omega
        · exact e2 ad e1
    · exact (hAc.lv i op a hi ha hn).imp id fun ⟨⟨ad, e1, e2⟩, e3⟩ => ⟨⟨ad, e1, .inl e2⟩, e3⟩
  · refine ⟨t.size, Nat.le_refl _, fun k op hk hb => ?_, fun k hk e => ?_⟩
    · have hg := h.ti.gs k op hk
      have hg : op.g < n := hg
      have hb : n ≤ op.g := hb
      omega
    · have := lt_of_act? e; omega
  · unfold Mode
    refine ⟨fun i hi => ?_, ?_, Nat.zero_le _⟩
    · rcases Nat.eq_zero_or_pos i with rfl | h0
      · rw [h.zero]; rfl
      · rw [quit i h0 hi]; rfl
    · show WgAt ty w₁.heap.size _ (((cntTo n D + 0 : Nat) : Int) * KK) 0
      rw [hcnt, show (((0 + 0 : Nat) : Int) * KK) = 0 by simp]
      exact heap_alloc_new w₁ _

/-- Every touch there is the starter knows, but for the groups'. -/
theorem Conf.allKnown (h : Conf P R N ty wg Sh γ O gs w t D) (ha : γ.acq = true) : ∀ (i : Nat) op a, t[i]? = some op → op.act.touch? = some a → Go.Conc.Knows t 0 i ∨ (inB Sh a.loc ∧ a.kind = .atomic ∧ ¬ t.heard i) := by
  intro i op a hi hta
  have hb1 := h.base1
  obtain ⟨hfin, q, q1, q2, q3, q4⟩ := h.acq ha
  have hnoff : γ.wp ≠ .off := by rw [hfin]; simp
  by_cases h0 : op.g = 0
  · left
    have := knows_own hi
    rwa [h0] at this
  · by_cases hA : Ac γ op.g
    · obtain ⟨k1, k2⟩ := hA.resolve_left h0
      obtain ⟨r, hr, hrq⟩ := q4 op.g k1 k2
      rcases Nat.lt_or_ge r i with hlt | hge
      · obtain ⟨⟨ad, e1, e2⟩, e3, e4⟩ := hr.after i op a hlt hi rfl hta
        exact .inr ⟨⟨ad, e1, by rw [e2]; exact (h.shw hnoff).1⟩, e3, e4⟩
      · left
        obtain ⟨p0, _, hp1, hp2⟩ := h.norel hnoff
        obtain ⟨opr, hopr, hopra⟩ := Option.map_eq_some_iff.1 hr.act
        obtain ⟨opr', hopr', hoprg⟩ := Option.map_eq_some_iff.1 hr.g
        rw [hopr] at hopr'
        cases hopr'
        have hpr : p0 ≤ r := hp1 r opr hopr (by rw [hoprg]; exact k1)
        have edge : HappensBefore t r q := .single (.inr ⟨.marked hrq (.inr hr.act) q1 (fun k a1 _ => hp2 k (by omega)), hr.heard, q3⟩)
        obtain ⟨opq, hopq, hopqg⟩ := Option.map_eq_some_iff.1 q2
        refine ⟨q, opq, hopq, hopqg, .inr ?_⟩
        rcases Nat.lt_or_ge i r with hlt' | hge'
        · exact (hb_po hlt' hi hopr hoprg.symm).trans edge
        · obtain rfl : i = r := by omega
          exact edge
    · exact h.ti.lv i op a hi hta hA

/-- A CALL ENDS: all that the workers have done is known. -/
theorem Well.leave {R0 Oold : Nat → Prop} {N0 ty0 wg0 : Nat} (hacq : γ.acq = true) (hd : γ.deaf = 0) (hR0 : ∀ k, R0 k → R k) (hOR : ∀ k, Oold k → R k ∧ ¬ R0 k ∧ N0 ≤ k) (hN : N0 ≤ N)
    (hW : Well P Post R0 N0 ty0 wg0 (fun k => Oold k ∨ O k) (offGh γ.n) g w) : Well P Post R N ty wg O γ g w := by
  intro Sh gs t sl D hx h
  refine hW Sh gs t sl D hx ?_
  have hb1 := h.base1
  have hbN := h.baseN
  have hall := h.allKnown hacq
  have quit : ∀ k, k < γ.n → (D k).s = .quit := fun k hk => h.acqQuit hacq hk
  have known : ∀ l, (∀ ad, l = .cell ad → ¬ Sh ad.block) → (∃ ad, l = .cell ad) → Perm t 0 l := by
    intro l hn ⟨ad, e⟩ i a ha hal
    obtain ⟨op, hop, hta⟩ := touch_of ha
    rcases hall i op a hop hta with h1 | ⟨⟨ad', e1, e2⟩, _⟩
    · exact h1
    · rw [hal] at e1
      exact absurd e2 (hn ad' e1)
  refine ⟨h.size, by show 1 ≤ γ.n; omega, Nat.le_refl _, fun _ => rfl, by show γ.n - γ.n ≤ 1000000; omega, Nat.le_trans hN h.sz, h.zero, fun i i1 i2 => quit i i2, fun i i1 i2 => ?_, fun i i1 i2 => ?_, fun i i1 i2 => ?_, fun i i1 i2 => ?_, fun i i1 i2 => ?_, fun i i1 i2 => ?_, fun i k i1 i2 => ?_, ?_, ?_, ?_, fun e => absurd rfl e, h.deaf0.trans hd, fun e => absurd rfl e, fun i i1 i2 => ?_, fun e => (by cases e), trivial⟩
  · obtain ⟨x, hxi, hsi, hdi⟩ := h.wk i i1 i2
    exact ⟨x, hxi, hsi.other (quit i i2), hdi⟩
  all_goals try (exfalso; have : γ.n ≤ i := i1; have : i < γ.n := i2; omega)
  · rw [Ac_off]
    rintro k rfl b (hb | hb)
    · exact (hOR b hb).2.2
    · exact Nat.le_trans hN (h.own 0 (.inl rfl) b hb)
  · rw [Ac_off]
    refine ⟨?_, ?_, ?_, ?_, fun b hb => h.ap.rdSh b (hR0 b hb), fun b hb => h.ap.rdLt b (hR0 b hb), h.ap.shLt⟩
    · rintro k k' b rfl rfl _ _; rfl
    · rintro k b rfl (hb | hb)
      · exact h.ap.rdLt b (hOR b hb).1
      · exact h.ap.lt 0 b (.inl rfl) hb
    · rintro k b rfl (hb | hb)
      · exact (hOR b hb).2.1
      · exact fun e => h.ap.ownRd 0 b (.inl rfl) hb (hR0 b e)
    · rintro k b rfl (hb | hb)
      · exact h.ap.rdSh b (hOR b hb).1
      · exact h.ap.ownSh 0 b (.inl rfl) hb
  · rw [Ac_off]
    refine ⟨h.ti.nr, h.ti.gs, h.ti.cell, ?_, ?_, h.ti.sh, fun i op a hi ha _ => hall i op a hi ha⟩
    · rintro k rfl l ⟨ad, e1, hb⟩
      refine known l (fun ad' e => ?_) ⟨ad, e1⟩
      rw [e1] at e; cases e
      rcases hb with hb | hb
      · exact h.ap.rdSh _ (hOR _ hb).1
      · exact h.ap.ownSh 0 _ (.inl rfl) hb
    · rintro k rfl l ⟨ad, e1, hb⟩
      refine ConcN.PermW.of (known l (fun ad' e => ?_) ⟨ad, e1⟩)
      rw [e1] at e; cases e
      exact h.ap.rdSh _ (hR0 _ hb)

/-- THE RETURN. -/
theorem Well.done {n : Nat} (hs : g.status = .running) (H : ∀ w₁, Rl N O w w₁ → ∃ v, stepG P true g w₁ = .ended (.done v) w₁ #[] ∧ Post v w₁) : Well P Post R N ty wg O (offGh n) g w := by
  intro Sh gs t sl D hx h
  refine pick0 hs (fun w₁ Sh gs t sl D hR hx h => ?_) Sh gs t sl D hx h
  obtain ⟨v, hgo, hp⟩ := H w₁ hR
  refine .inr ⟨_, _, _, ConcN.runT_crowd_ended (i := 0) hx hgo, fun w₂ sl₂ => ?_⟩
  rw [show MemOp.ofEvents 0 g.frame.fn g.frame.place #[] = #[] from rfl, Array.append_empty]
  have hti := h.ti
  rw [Ac_off] at hti
  have hq : ∀ i, i ≠ 0 → ∀ x, gs[i]? = some x → ∃ q, QuitsD P q (Deaf t i) x := fun i hi x hxi => by
    have hin := h.lt_n hxi
    obtain ⟨x', hx', hsit, hd⟩ := h.wk i (by omega) hin
    rw [hxi] at hx'; cases hx'
    unfold WSit at hsit
    rw [h.lv i (by omega) hin] at hsit
    obtain ⟨q, _, hq⟩ := hsit
    exact ⟨q, by rw [hd]; exact hq⟩
  refine ⟨v, rfl, hp, hti.nr, fun i k hg hne hc => ?_, ⟨fun x hx => ?_, rfl⟩, fun i x hxi hne => ?_⟩
  · obtain ⟨op, hop, hopg⟩ := Option.map_eq_some_iff.1 hg
    obtain ⟨a, ha, _, hk⟩ := hc
    obtain ⟨op', hop', hta⟩ := touch_of ha
    rw [hop] at hop'
    cases hop'
    rcases hti.lv i op a hop hta (by rw [hopg]; exact hne) with ⟨q, z, h1, h2, h3⟩ | ⟨_, e1, e2⟩
    · refine ⟨q, by simp [Trace.g?, h1, h2], ?_⟩
      rcases h3 with rfl | h3
      · rw [hop] at h1; cases h1
        exact absurd (hopg.symm.trans h2) hne
      · exact h3
    · exact hk.elim (fun e => absurd e1 e) (fun e => absurd e e2)
  · have hx : x ∈ gs.toList.drop 1 := hx
    obtain ⟨i, hi⟩ := List.mem_iff_getElem?.1 hx
    rw [List.getElem?_drop] at hi
    obtain ⟨q, hq⟩ := hq (1 + i) (by omega) x (by simpa using hi)
    exact ⟨q, hq.leaves⟩
  · obtain ⟨q, hq⟩ := hq i hne x hxi
    exact ⟨q, hq.hears _⟩

/-- THE START. -/
theorem Well.start (h : Well P Post (· < w.heap.size) w.heap.size ty wg (fun _ => False) (offGh 1) g w) : Ends P Post (solo g w) #[] := by
  rw [solo_eq_crowd]
  refine h (fun _ => False) #[g] #[] none (fun _ => ⟨.quit, trOf 0, fun _ => False, 0⟩) rfl ?_
  refine ⟨rfl, Nat.le_refl _, Nat.le_refl _, fun _ => rfl, by show 1 - 1 ≤ 1000000; omega, Nat.le_refl _, rfl, fun i i1 i2 => rfl, fun i i1 i2 => ?_, fun i i1 i2 => ?_, fun i i1 i2 => ?_, fun i i1 i2 => ?_, fun i i1 i2 => ?_, fun i i1 i2 => ?_, fun i k i1 i2 => ?_, ?_, ?_, ?_, fun e => absurd rfl e, rfl, fun e => absurd rfl e, fun i i1 i2 => ?_, fun e => (by cases e), trivial⟩
  all_goals try (exfalso; have : 1 ≤ i := i1; have : i < 1 := i2; omega)
  · rw [Ac_off]
    rintro k rfl b hb; exact hb.elim
  · rw [Ac_off]
    exact ⟨by rintro k k' b rfl rfl _ _; rfl, by rintro k b rfl hb; exact hb.elim, by rintro k b rfl hb; exact hb.elim, by rintro k b rfl hb; exact hb.elim, fun b _ hb => hb, fun b hb => hb, fun b hb => hb.elim⟩
  · rw [Ac_off]
    refine ⟨?_, fun i op hi => by simp at hi, fun i a ha => ?_, fun k _ l hl i a ha => ?_, fun k _ l hl i a ha => ?_, fun i op x hi => by simp at hi, fun i op a hi => by simp at hi⟩
    · rintro said ⟨i, j, hij, ⟨a, b, ha, _⟩, _⟩
      obtain ⟨op, hop, _⟩ := touch_of ha
      simp at hop
    all_goals
      obtain ⟨op, hop, _⟩ := touch_of ha
      simp at hop
end
end Go.Proofs.Ytnmhgfeglfcbgaa
