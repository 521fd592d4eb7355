/-
  Proved here: the starter gives a turn, takes an answer, closes a channel, starts a worker.
  Conditions: none beyond each law's own.
-/
import Derived.Test.YtnmhgfeglfcbgaaPass
namespace Go.Proofs.Ytnmhgfeglfcbgaa
open Go.Conc
open Go.ConcR (KK wgBlock WgAt stA smA rd wr DC0)
open Go.ConcN (WgLive sumTo)

section
variable {P : Program} {Post : Value → World → Prop} {R : Nat → Prop} {N : Nat} {ty : TypeId} {wg : Nat} {Sh : Nat → Prop} {γ γ' : Gh} {O O' : Nat → Prop} {gs gs' : Array Goroutine} {w w' : World} {t u : Trace} {D D' : Nat → WD} {g : Goroutine}

theorem four (x y : MemOp) (h1 : x.g < γ.n) (h2 : y.g < γ.n) {c s r : Nat} : ∀ op ∈ #[({ g := x.g, fn := x.fn, pos := x.pos, act := .send c s } : MemOp), { g := y.g, fn := y.fn, pos := y.pos, act := .recv c r 0 },
    { g := x.g, fn := x.fn, pos := x.pos, act := .sendDone c s }, { g := y.g, fn := y.fn, pos := y.pos, act := .recvDone c r }], op.g < γ.n ∧ op.act.touch? = none ∧ ∀ m, op.act ≠ .mark m := by
  intro op hop
  simp only [List.mem_toArray, List.mem_cons, List.not_mem_nil, or_false] at hop
  rcases hop with rfl | rfl | rfl | rfl
  · exact ⟨h1, rfl, fun m => by simp⟩
  · exact ⟨h2, rfl, fun m => by simp⟩
  · exact ⟨h1, rfl, fun m => by simp⟩
  · exact ⟨h2, rfl, fun m => by simp⟩

theorem Conf.iwC (h : Conf P R N ty wg Sh γ O gs w t D) {i : Nat} (h1 : γ.base ≤ i) (h2 : i < γ.n) {c cap s r : Nat} {buf : Array Value} {cl tm : Bool} (hc : c = (γ.K i).b ∨ c = (γ.K i).c) : IW N (D i).O ty wg w (w.setChan c cap buf cl s r tm) := by
  have hb1 := h.base1
  have hO := h.chO i h1 h2 i (.inr ⟨h1, h2⟩)
  rw [OwF_pos (by omega)] at hO
  have hN := h.chN i h1 h2
  have hnoff := h.notOff h1 h2
  obtain ⟨st, sm, hl⟩ := h.mode.live hnoff
  rcases hc with rfl | rfl
  · exact ⟨chan_rl hN.1 hO.1, by rw [setChan_size]; exact h.sz, st, sm, hl.of_block (setChan_old (fun e => hN.2.2.1 e.symm))⟩
  · exact ⟨chan_rl hN.2.1 hO.2, by rw [setChan_size]; exact h.sz, st, sm, hl.of_block (setChan_old (fun e => hN.2.2.2 e.symm))⟩
theorem Conf.rlC (h : Conf P R N ty wg Sh γ O gs w t D) {i : Nat} (h1 : γ.base ≤ i) (h2 : i < γ.n) {c cap s r : Nat} {buf : Array Value} {cl tm : Bool} (hc : c = (γ.K i).b ∨ c = (γ.K i).c) : Rl N O w (w.setChan c cap buf cl s r tm) := by
  have hO := h.chO i h1 h2 0 (.inl rfl)
  have hN := h.chN i h1 h2
  rcases hc with rfl | rfl
  · exact chan_rl hN.1 hO.1
  · exact chan_rl hN.2.1 hO.2

/-- THE TURN IS HANDED OVER: both go on. -/
theorem Conf.handB (h : Conf P R N ty wg Sh γ O gs w t D) {i : Nat} (h1 : γ.base ≤ i) (h2 : i < γ.n) {j s r : Nat} (_hm : γ.m i = .idle j) (hl : j < (γ.K i).lim) (hs : (D i).s = .run (.R j) ∨ (D i).s = .pr j) (hd : (D i).d = 0) {g₂ : Goroutine} {z v : Value} (hA : AtR P R N ty wg (γ.K i) (D i).τ j (D i).O g₂ z w)
    (hc : w.heap[(γ.K i).b]? = some (.chan 0 #[] false s r false)) (hsz : gs'.size = gs.size) (hgs : ∀ k, 1 ≤ k → k < γ.n → k ≠ i → gs'[k]? = gs[k]?) (hgi : gs'[i]? = some (Conc.served g₂ (recvd true v true)))
    (hu : ∀ op ∈ u, op.g < γ.n ∧ op.act.touch? = none ∧ ∀ m, op.act ≠ .mark m) :
    ∃ D', Conf P R N ty wg Sh (γ.set i (.given j)) O gs' (w.setChan (γ.K i).b 0 #[] false (s + 1) (r + 1) false) (t ++ u) D' := by
  obtain ⟨τ', _, hτ⟩ := hA.h1 _ v hl (h.iwC h1 h2 (.inl rfl) (cap := 0) (buf := #[]) (cl := false) (s := s + 1) (r := r + 1) (tm := false))
  obtain ⟨s', r', hcc⟩ := h.chc i h1 h2
  have hcl : (D i).s.shutC = false := by rcases hs with e | e <;> rw [e] <;> rfl
  have hcn : (D i).s.cnt = 1 := by rcases hs with e | e <;> rw [e] <;> rfl
  rw [hcl] at hcc
  have hlt := (Array.getElem?_eq_some_iff.1 hc).1
  refine ⟨_, h.comm (m' := .given j) (d := ⟨.run (.S j), τ', (D i).O, 0⟩) (S := (· = (γ.K i).b)) h1 h2 hsz hgs hgi chan_chg (fun b hb => .inl hb) setChan_size ⟨hτ, rfl⟩ rfl hd.symm rfl ⟨_, _, setChan_self hlt⟩ ⟨s', r', ?_⟩ hu rfl hcn rfl⟩
  rw [setChan_old (fun e => (h.chD i i h1 h2 h1 h2).1 e.symm)]
  exact hcc

/-- AN ANSWER IS HANDED OVER: both go on. -/
theorem Conf.handC (h : Conf P R N ty wg Sh γ O gs w t D) {i : Nat} (h1 : γ.base ≤ i) (h2 : i < γ.n) {p p' : Ph} {s r : Nat} {v : Value} {m' : MP} (hs : (D i).s = .run p ∨ (D i).s = .ps p) (hd : (D i).d = 0) {g₂ : Goroutine} {z : Value} (hA : AtS P R N ty wg (γ.K i) (D i).τ p p' v (D i).O g₂ z w)
    (hm : fits m' (.run p')) (hmb : m'.shutB = (γ.m i).shutB) (hc : w.heap[(γ.K i).c]? = some (.chan 0 #[] false s r false)) (hsz : gs'.size = gs.size) (hgs : ∀ k, 1 ≤ k → k < γ.n → k ≠ i → gs'[k]? = gs[k]?) (hgi : gs'[i]? = some (Conc.served g₂ undef))
    (hu : ∀ op ∈ u, op.g < γ.n ∧ op.act.touch? = none ∧ ∀ m, op.act ≠ .mark m) :
    ∃ D', Conf P R N ty wg Sh (γ.set i m') O gs' (w.setChan (γ.K i).c 0 #[] false (s + 1) (r + 1) false) (t ++ u) D' := by
  obtain ⟨τ', _, hτ⟩ := hA.h _ (h.iwC h1 h2 (.inr rfl) (cap := 0) (buf := #[]) (cl := false) (s := s + 1) (r := r + 1) (tm := false))
  obtain ⟨s', r', hcb⟩ := h.chb i h1 h2
  have hp := hA.hp
  have hcn : (D i).s.cnt = 1 := by
    rcases hs with e | e <;> rw [e]
    · cases p <;> simp [Ph.sends] at hp <;> rfl
    · rfl
  have hp' : (WSt.run p').rel = false ∧ (WSt.run p').cnt = 1 ∧ (WSt.run p').shutC = false ∧ p'.deaf = 0 := by
    cases p <;> simp [Ph.sends] at hp <;> (obtain ⟨_, rfl⟩ := hp; exact ⟨rfl, rfl, rfl, rfl⟩)
  have hlt := (Array.getElem?_eq_some_iff.1 hc).1
  refine ⟨_, h.comm (m' := m') (d := ⟨.run p', τ', (D i).O, 0⟩) (S := (· = (γ.K i).c)) h1 h2 hsz hgs hgi chan_chg (fun b hb => .inr hb) setChan_size ⟨hτ, hp'.2.2.2.symm⟩ rfl hd.symm hm ⟨s', r', ?_⟩ ⟨s + 1, r + 1, ?_⟩ hu hp'.1 hcn hp'.2.1⟩
  · rw [setChan_old (h.chD i i h1 h2 h1 h2).1, hmb]
    exact hcb
  · rw [setChan_self hlt, hp'.2.2.1]

/-- IT GIVES A TURN. -/
theorem Well.send {i j : Nat} (hs : g.status = .running) (h1 : γ.base ≤ i) (h2 : i < γ.n) (hm : γ.m i = .idle j) (hl : j < (γ.K i).lim) {g₂ : Goroutine} {v z : Value}
    (hc : ∀ w₁, Rl N O w w₁ → stepG P true g w₁ = .comm g₂ #[scase (γ.K i).b v z] true .send w₁ #[])
    (H : ∀ w₁, Rl N O w w₁ → Well P Post R N ty wg O (γ.set i (.given j)) (Conc.served g₂ undef) w₁) : Well P Post R N ty wg O γ g w := by
  -- it waits
  have wait : ∀ T : Nat → Rk, Acc (RL γ.n) T → ∀ w₁ Sh gs t sl D, (fun k => (D k).rk) = T → Rl N O w w₁ → gs[0]? = some (parked g₂ #[scase (γ.K i).b v z] .send) → (D i).s = .run (.R j) → Conf P R N ty wg Sh γ O gs w₁ t D → Ends P Post (crowd gs w₁ sl) t := by
    intro T hT
    induction hT with
    | intro T _ ih =>
      intro w₁ Sh gs t sl D hD hR hx hsi h
      have hb1 := h.base1
      obtain ⟨gi, hgi, hsit, _⟩ := h.wk i (by omega) h2
      have hrun : gi.status = .running := by
        unfold WSit at hsit
        rw [hsi] at hsit
        exact hsit.1.running
      refine one h hx (awake_of (.inr (.inl rfl))) sl ⟨i, gi, hgi, hrun⟩ (fun e => by cases e) (fun d k gs' w' sl' u D' x' k1 k2 hc' hrl hRl hDk hp1 _ hx' hxx => ?_) (fun d k g' sl' k1 k2 hgk hd ⟨hbk, j', g₂', z', hsk, hck, ho, hA⟩ => ?_) (fun d k g' sl' k1 k2 hgk hd ⟨hbk, p, p', v', g₂', z', hsk, _, ho, _⟩ => absurd (offersAt_parked_send' _ _ _ _ _ _) ho)
      · have hx'' : x' = parked g₂ #[scase (γ.K i).b v z] .send := by
          rcases hxx with e | e
          · obtain ⟨s, r, e'⟩ := hc'.chb i h1 h2
            rw [hm] at e'
            rw [e]; exact again_send_open e'
          · exact e.1
        have hD'i : (D' i).s = .run (.R j) := by
          by_cases e : k = i
          · subst e
            have hf := hc'.fit k h1 h2
            rw [hm] at hf
            cases hsk : (D' k).s with
            | run p => rw [hsk] at hf; cases p <;> first | (have : _ = _ := hf; subst this; rfl) | exact hf.elim
            | pr j' =>
              have := hp1 j' hsk
              rw [offersAt_parked_send, if_pos rfl] at this
              cases this
            | ps p => rw [hsk] at hf; cases p <;> exact hf.elim
            | quit => rw [hsk] at hf; exact hf.elim
          · rw [hDk i fun x => e x.symm]; exact hsi
        exact ih (fun k => (D' k).rk) (by rw [← hD]; exact hrl) w' Sh gs' (t ++ u) sl' D' rfl (hR.trans ((Rl.at N O w₁ d).trans hRl)) (by rw [← hx'']; exact hx') hD'i hc'
      · have hki : k = i := by
          refine Classical.byContradiction fun hne => ho ?_
          rw [offersAt_parked_send, if_neg]
          exact ((hd.chD i k h1 h2 hbk k2).2 (fun e => hne e.symm)).1
        subst hki
        have hj : j' = j := by
          have hf := hd.fit k h1 h2
          rw [hm, hsk] at hf
          exact hf
        subst hj
        obtain ⟨s, r, hcb⟩ := hd.chb k h1 h2
        rw [hm] at hcb
        have hmeet := crowd_recv_meets (P := P) (sl := sl') (shape := .recv true) hgk (by rw [show (k == 0) = false by simp; omega]; exact hck) hcb (by omega : (0 : Nat) ≠ k) hx (hd.partS1 h1 h2 hx)
        rw [finishComm_send, finishComm_recv] at hmeet
        have h0 : 0 < gs.size := (Array.getElem?_eq_some_iff.1 hx).1
        have hk' : k < gs.size := by rw [h.size]; exact k2
        have hdd : (D k).d = 0 := by
          obtain ⟨_, _, hs', _⟩ := hd.wk k k1 k2
          unfold WSit at hs'
          rw [hsk] at hs'
          exact hs'.2
        obtain ⟨D', hconf⟩ := hd.handB (gs' := (gs.setIfInBounds 0 (Conc.served g₂ undef)).setIfInBounds k (Conc.served g₂' (recvd true v true))) (u := MemOp.ofEvents k g'.frame.fn g'.frame.place #[] ++ #[{ g := 0, fn := g₂.frame.fn, pos := g₂.frame.place, act := .send (γ.K k).b s }, { g := k, fn := g₂'.frame.fn, pos := g₂'.frame.place, act := .recv (γ.K k).b r 0 },
            { g := 0, fn := g₂.frame.fn, pos := g₂.frame.place, act := .sendDone (γ.K k).b s }, { g := k, fn := g₂'.frame.fn, pos := g₂'.frame.place, act := .recvDone (γ.K k).b r }]) h1 h2 hm hl (.inl hsk) hdd hA hcb (by simp)
          (fun k' k1' k2' hne => by rw [Array.getElem?_setIfInBounds_ne (fun e => hne e.symm), Array.getElem?_setIfInBounds_ne (by omega)]) (by rw [Array.getElem?_setIfInBounds_self_of_lt (by simpa using hk')]) (by
            intro op hop
            rw [show MemOp.ofEvents k g'.frame.fn g'.frame.place #[] = #[] from rfl, Array.empty_append] at hop
            exact four (γ := γ) { g := 0, fn := g₂.frame.fn, pos := g₂.frame.place, act := .start } { g := k, fn := g₂'.frame.fn, pos := g₂'.frame.place, act := .start } (by show 0 < γ.n; omega) k2 op hop)
        refine ⟨_, _, hmeet, H _ (hR.trans ((Rl.at N O w₁ d).trans (hd.rlC h1 h2 (.inl rfl)))) Sh _ _ sl' D' ?_ hconf⟩
        rw [Array.getElem?_setIfInBounds_ne (by omega), Array.getElem?_setIfInBounds_self_of_lt h0]
  intro Sh gs t sl D hx h
  refine pick0 hs (fun w₁ Sh gs t sl D hR hx h => ?_) Sh gs t sl D hx h
  have hb1 := h.base1
  have hcm := hc w₁ hR
  obtain ⟨s, r, hcb⟩ := h.chb i h1 h2
  rw [hm] at hcb
  have hf := h.fit i h1 h2
  rw [hm] at hf
  have h0 : 0 < gs.size := (Array.getElem?_eq_some_iff.1 hx).1
  cases hsi : (D i).s with
  | run p =>
    rw [hsi] at hf
    have hp : p = .R j := by cases p <;> first | (have e : _ = _ := hf; subst e; rfl) | exact hf.elim
    subst hp
    have hrun := crowd_waits (P := P) (sl := sl) (i := 0) hx hcm (fun cc hcc => by
      have : cc = scase (γ.K i).b v z := by simpa using hcc
      rw [this]; exact ways_send_none hcb (Nat.zero_le _) (h.part0R h1 h2 (by rw [hsi]; simp)))
    refine .inl ⟨_, _, hrun, ?_⟩
    rw [show MemOp.ofEvents 0 g.frame.fn g.frame.place #[] = #[] from rfl, Array.append_empty]
    refine wait _ (RL.acc γ.n _) w₁ Sh _ t sl D rfl hR (by rw [Array.getElem?_setIfInBounds_self_of_lt h0]) hsi ?_
    exact ⟨by simpa using h.size, h.base1, h.baseN, h.off, h.small, h.sz, h.zero, h.lv, fun k k1 k2 => by rw [Array.getElem?_setIfInBounds_ne (by omega)]; exact h.wk k k1 k2, h.fit, h.chb, h.chc, h.chN, h.chO, h.chD, h.own, h.ap, h.ti, h.shw, h.deaf0, h.norel, h.rel, h.acq, h.mode⟩
  | pr j' =>
    rw [hsi] at hf
    have e : j' = j := hf
    subst e
    obtain ⟨gi, hgi, hsit, _⟩ := h.wk i (by omega) h2
    unfold WSit at hsit
    rw [hsi] at hsit
    obtain ⟨⟨g₂', z', rfl, hA⟩, hdd⟩ := hsit
    have hmeet := crowd_send_meets (P := P) (sl := sl) (i := 0) (shape := .send) hx hcm hcb (by omega : i ≠ 0) hgi (h.part0R1 h1 h2 hgi)
    rw [finishComm_send, finishComm_recv] at hmeet
    have hk' : i < gs.size := by rw [h.size]; exact h2
    obtain ⟨D', hconf⟩ := h.handB (gs' := (gs.setIfInBounds i (Conc.served g₂' (recvd true v true))).setIfInBounds 0 (Conc.served g₂ undef)) (u := MemOp.ofEvents 0 g.frame.fn g.frame.place #[] ++ #[{ g := 0, fn := g₂.frame.fn, pos := g₂.frame.place, act := .send (γ.K i).b s }, { g := i, fn := g₂'.frame.fn, pos := g₂'.frame.place, act := .recv (γ.K i).b r 0 },
        { g := 0, fn := g₂.frame.fn, pos := g₂.frame.place, act := .sendDone (γ.K i).b s }, { g := i, fn := g₂'.frame.fn, pos := g₂'.frame.place, act := .recvDone (γ.K i).b r }]) h1 h2 hm hl (.inr hsi) hdd hA hcb (by simp)
      (fun k' k1' k2' hne => by rw [Array.getElem?_setIfInBounds_ne (by omega), Array.getElem?_setIfInBounds_ne (fun e => hne e.symm)]) (by rw [Array.getElem?_setIfInBounds_ne (by omega), Array.getElem?_setIfInBounds_self_of_lt hk']) (by
        intro op hop
        rw [show MemOp.ofEvents 0 g.frame.fn g.frame.place #[] = #[] from rfl, Array.empty_append] at hop
        exact four (γ := γ) { g := 0, fn := g₂.frame.fn, pos := g₂.frame.place, act := .start } { g := i, fn := g₂'.frame.fn, pos := g₂'.frame.place, act := .start } (by show 0 < γ.n; omega) h2 op hop)
    refine .inl ⟨_, _, hmeet, H _ (hR.trans (h.rlC h1 h2 (.inl rfl))) Sh _ _ sl D' ?_ hconf⟩
    rw [Array.getElem?_setIfInBounds_self_of_lt (by simpa using h0)]
  | ps p => rw [hsi] at hf; cases p <;> exact hf.elim
  | quit => rw [hsi] at hf; exact hf.elim

/-- IT TAKES AN ANSWER. -/
theorem Well.recv {i j : Nat} {v : Value} {m' : MP} (hs : g.status = .running) (h1 : γ.base ≤ i) (h2 : i < γ.n)
    (hm : (γ.m i = .given j ∧ v = (γ.K i).note j ∧ m' = .idle (j + 1)) ∨ (γ.m i = .shut j ∧ v = (γ.K i).rest j ∧ m' = .gone)) {g₂ : Goroutine} {z : Value} {ok : Bool}
    (hc : ∀ w₁, Rl N O w w₁ → stepG P true g w₁ = .comm g₂ #[rcase (γ.K i).c z] true (.recv ok) w₁ #[])
    (H : ∀ w₁, Rl N O w w₁ → Well P Post R N ty wg O (γ.set i m') (Conc.served g₂ (recvd ok v true)) w₁) : Well P Post R N ty wg O γ g w := by
  -- what it will be told, by whoever stands at the send
  have told : ∀ (p p' : Ph) (x : Value), p.sends (γ.K i) = some (x, p') → fits (γ.m i) (.run p) → x = v ∧ fits m' (.run p') ∧ m'.shutB = (γ.m i).shutB := by
    intro p p' x hp hf
    rcases hm with ⟨e1, e2, e3⟩ | ⟨e1, e2, e3⟩ <;> rw [e1] at hf ⊢ <;> subst e2 <;> subst e3
    · cases p <;> simp [Ph.sends] at hp <;> try exact hf.elim
      obtain ⟨rfl, rfl⟩ := hp
      have e : _ = _ := hf
      subst e
      exact ⟨rfl, rfl, rfl⟩
    · cases p <;> simp [Ph.sends] at hp <;> try exact hf.elim
      obtain ⟨rfl, rfl⟩ := hp
      have e : _ = _ := hf
      subst e
      exact ⟨rfl, trivial, rfl⟩
  have fitps : ∀ p, fits (γ.m i) (.ps p) → fits (γ.m i) (.run p) := by
    intro p hf
    cases hmi : γ.m i <;> rw [hmi] at hf <;> cases p <;> first | exact hf | exact hf.elim
  have nopr : ∀ j', ¬ fits (γ.m i) (.pr j') := by
    intro j' hf
    rcases hm with ⟨e1, _⟩ | ⟨e1, _⟩ <;> rw [e1] at hf <;> exact hf
  have noq : ¬ fits (γ.m i) .quit := by
    intro hf
    rcases hm with ⟨e1, _⟩ | ⟨e1, _⟩ <;> rw [e1] at hf <;> exact hf
  have noC : ∀ s, fits (γ.m i) s → s.shutC = false := by
    intro s hf
    rcases hm with ⟨e1, _⟩ | ⟨e1, _⟩ <;> rw [e1] at hf <;> (cases s with
      | run p => cases p <;> first | rfl | exact hf.elim
      | pr j => exact hf.elim
      | ps p => rfl
      | quit => exact hf.elim)
  -- it waits
  have wait : ∀ T : Nat → Rk, Acc (RL γ.n) T → ∀ w₁ Sh gs t sl D, (fun k => (D k).rk) = T → Rl N O w w₁ → gs[0]? = some (parked g₂ #[rcase (γ.K i).c z] (.recv ok)) → (∃ p, (D i).s = .run p) → Conf P R N ty wg Sh γ O gs w₁ t D → Ends P Post (crowd gs w₁ sl) t := by
    intro T hT
    induction hT with
    | intro T _ ih =>
      intro w₁ Sh gs t sl D hD hR hx ⟨p0, hsi⟩ h
      have hb1 := h.base1
      obtain ⟨gi, hgi, hsit, _⟩ := h.wk i (by omega) h2
      have hrun : gi.status = .running := by
        unfold WSit at hsit
        rw [hsi] at hsit
        exact hsit.1.running
      refine one h hx (awake_of (.inr (.inl rfl))) sl ⟨i, gi, hgi, hrun⟩ (fun e => by cases e) (fun d k gs' w' sl' u D' x' k1 k2 hc' hrl hRl hDk _ hp2 hx' hxx => ?_) (fun d k g' sl' k1 k2 hgk hd ⟨hbk, j', g₂', z', _, _, ho, _⟩ => absurd (offersAt_parked_recv' _ _ _ _ _) ho) (fun d k g' sl' k1 k2 hgk hd ⟨hbk, p, p', v', g₂', z', hsk, hck, ho, hA⟩ => ?_)
      · have hx'' : x' = parked g₂ #[rcase (γ.K i).c z] (.recv ok) := by
          rcases hxx with e | e
          · obtain ⟨s, r, e'⟩ := hc'.chc i h1 h2
            rw [noC _ (hc'.fit i h1 h2)] at e'
            rw [e]; exact again_recv_open e'
          · exact e.1
        have hD'i : ∃ p, (D' i).s = .run p := by
          by_cases e : k = i
          · subst e
            have hf := hc'.fit k h1 h2
            cases hsk : (D' k).s with
            | run p => exact ⟨p, rfl⟩
            | pr j' => rw [hsk] at hf; exact (nopr _ hf).elim
            | ps p =>
              have := hp2 p hsk
              rw [offersAt_parked_recv, if_pos rfl] at this
              cases this
            | quit => rw [hsk] at hf; exact (noq hf).elim
          · rw [hDk i fun x => e x.symm]; exact ⟨p0, hsi⟩
        exact ih (fun k => (D' k).rk) (by rw [← hD]; exact hrl) w' Sh gs' (t ++ u) sl' D' rfl (hR.trans ((Rl.at N O w₁ d).trans hRl)) (by rw [← hx'']; exact hx') hD'i hc'
      · have hki : k = i := by
          refine Classical.byContradiction fun hne => ho ?_
          rw [offersAt_parked_recv, if_neg]
          exact ((hd.chD i k h1 h2 hbk k2).2 (fun e => hne e.symm)).2
        subst hki
        have hf := hd.fit k h1 h2
        obtain ⟨s, r, hcc⟩ := hd.chc k h1 h2
        rw [noC _ hf] at hcc
        rw [hsk] at hf
        obtain ⟨rfl, hfit, hmb⟩ := told p p' v' hA.hp hf
        have hmeet := crowd_send_meets (P := P) (sl := sl') (shape := .send) hgk (by rw [show (k == 0) = false by simp; omega]; exact hck) hcc (by omega : (0 : Nat) ≠ k) hx (hd.partR1 h1 h2 hx)
        rw [finishComm_send, finishComm_recv] at hmeet
        have h0 : 0 < gs.size := (Array.getElem?_eq_some_iff.1 hx).1
        have hk' : k < gs.size := by rw [h.size]; exact k2
        have hdd : (D k).d = 0 := by
          obtain ⟨_, _, hs', _⟩ := hd.wk k k1 k2
          unfold WSit at hs'
          rw [hsk] at hs'
          rw [hs'.2]
          have := hA.hp
          cases p <;> simp [Ph.sends] at this <;> rfl
        obtain ⟨D', hconf⟩ := hd.handC (gs' := (gs.setIfInBounds 0 (Conc.served g₂ (recvd ok v' true))).setIfInBounds k (Conc.served g₂' undef)) (u := MemOp.ofEvents k g'.frame.fn g'.frame.place #[] ++ #[{ g := k, fn := g₂'.frame.fn, pos := g₂'.frame.place, act := .send (γ.K k).c s }, { g := 0, fn := g₂.frame.fn, pos := g₂.frame.place, act := .recv (γ.K k).c r 0 },
            { g := k, fn := g₂'.frame.fn, pos := g₂'.frame.place, act := .sendDone (γ.K k).c s }, { g := 0, fn := g₂.frame.fn, pos := g₂.frame.place, act := .recvDone (γ.K k).c r }]) h1 h2 (.inl hsk) hdd hA hfit hmb hcc (by simp)
          (fun k' k1' k2' hne => by rw [Array.getElem?_setIfInBounds_ne (fun e => hne e.symm), Array.getElem?_setIfInBounds_ne (by omega)]) (by rw [Array.getElem?_setIfInBounds_self_of_lt (by simpa using hk')]) (by
            intro op hop
            rw [show MemOp.ofEvents k g'.frame.fn g'.frame.place #[] = #[] from rfl, Array.empty_append] at hop
            exact four (γ := γ) { g := k, fn := g₂'.frame.fn, pos := g₂'.frame.place, act := .start } { g := 0, fn := g₂.frame.fn, pos := g₂.frame.place, act := .start } k2 (by show 0 < γ.n; omega) op hop)
        refine ⟨_, _, hmeet, H _ (hR.trans ((Rl.at N O w₁ d).trans (hd.rlC h1 h2 (.inr rfl)))) Sh _ _ sl' D' ?_ hconf⟩
        rw [Array.getElem?_setIfInBounds_ne (by omega), Array.getElem?_setIfInBounds_self_of_lt h0]
  intro Sh gs t sl D hx h
  refine pick0 hs (fun w₁ Sh gs t sl D hR hx h => ?_) Sh gs t sl D hx h
  have hb1 := h.base1
  have hcm := hc w₁ hR
  obtain ⟨s, r, hcc⟩ := h.chc i h1 h2
  have hf := h.fit i h1 h2
  rw [noC _ hf] at hcc
  have h0 : 0 < gs.size := (Array.getElem?_eq_some_iff.1 hx).1
  cases hsi : (D i).s with
  | run p =>
    have hrun := crowd_waits (P := P) (sl := sl) (i := 0) hx hcm (fun cc hcc' => by
      have : cc = rcase (γ.K i).c z := by simpa using hcc'
      rw [this]; exact ways_recv_none hcc (h.part0S h1 h2 (by rw [hsi]; simp)))
    refine .inl ⟨_, _, hrun, ?_⟩
    rw [show MemOp.ofEvents 0 g.frame.fn g.frame.place #[] = #[] from rfl, Array.append_empty]
    refine wait _ (RL.acc γ.n _) w₁ Sh _ t sl D rfl hR (by rw [Array.getElem?_setIfInBounds_self_of_lt h0]) ⟨p, hsi⟩ ?_
    exact ⟨by simpa using h.size, h.base1, h.baseN, h.off, h.small, h.sz, h.zero, h.lv, fun k k1 k2 => by rw [Array.getElem?_setIfInBounds_ne (by omega)]; exact h.wk k k1 k2, h.fit, h.chb, h.chc, h.chN, h.chO, h.chD, h.own, h.ap, h.ti, h.shw, h.deaf0, h.norel, h.rel, h.acq, h.mode⟩
  | ps p =>
    rw [hsi] at hf
    obtain ⟨gi, hgi, hsit, _⟩ := h.wk i (by omega) h2
    unfold WSit at hsit
    rw [hsi] at hsit
    obtain ⟨⟨g₂', z', p', x, rfl, hA⟩, hdd⟩ := hsit
    obtain ⟨rfl, hfit, hmb⟩ := told p p' x hA.hp (fitps p hf)
    have hmeet := crowd_recv_meets (P := P) (sl := sl) (i := 0) (shape := .recv ok) hx hcm hcc (by omega : i ≠ 0) hgi (h.part0S1 h1 h2 hgi)
    rw [finishComm_send, finishComm_recv] at hmeet
    have hk' : i < gs.size := by rw [h.size]; exact h2
    obtain ⟨D', hconf⟩ := h.handC (gs' := (gs.setIfInBounds i (Conc.served g₂' undef)).setIfInBounds 0 (Conc.served g₂ (recvd ok x true))) (u := MemOp.ofEvents 0 g.frame.fn g.frame.place #[] ++ #[{ g := i, fn := g₂'.frame.fn, pos := g₂'.frame.place, act := .send (γ.K i).c s }, { g := 0, fn := g₂.frame.fn, pos := g₂.frame.place, act := .recv (γ.K i).c r 0 },
        { g := i, fn := g₂'.frame.fn, pos := g₂'.frame.place, act := .sendDone (γ.K i).c s }, { g := 0, fn := g₂.frame.fn, pos := g₂.frame.place, act := .recvDone (γ.K i).c r }]) h1 h2 (.inr hsi) hdd hA hfit hmb hcc (by simp)
      (fun k' k1' k2' hne => by rw [Array.getElem?_setIfInBounds_ne (by omega), Array.getElem?_setIfInBounds_ne (fun e => hne e.symm)]) (by rw [Array.getElem?_setIfInBounds_ne (by omega), Array.getElem?_setIfInBounds_self_of_lt hk']) (by
        intro op hop
        rw [show MemOp.ofEvents 0 g.frame.fn g.frame.place #[] = #[] from rfl, Array.empty_append] at hop
        exact four (γ := γ) { g := i, fn := g₂'.frame.fn, pos := g₂'.frame.place, act := .start } { g := 0, fn := g₂.frame.fn, pos := g₂.frame.place, act := .start } h2 (by show 0 < γ.n; omega) op hop)
    refine .inl ⟨_, _, hmeet, H _ (hR.trans (h.rlC h1 h2 (.inr rfl))) Sh _ _ sl D' ?_ hconf⟩
    rw [Array.getElem?_setIfInBounds_self_of_lt (by simpa using h0)]
  | pr j' => rw [hsi] at hf; exact (nopr _ hf).elim
  | quit => rw [hsi] at hf; exact (noq hf).elim
end
end Go.Proofs.Ytnmhgfeglfcbgaa
