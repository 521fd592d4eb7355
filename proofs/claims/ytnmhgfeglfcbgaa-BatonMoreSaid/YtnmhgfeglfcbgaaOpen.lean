/-
  Proved here: the starter closes a channel, starts a worker; how a call that starts workers begins and ends; the return.
  Conditions: none beyond each law's own.
-/
import Derived.Test.YtnmhgfeglfcbgaaGive
namespace Go.Proofs.Ytnmhgfeglfcbgaa
open Go.Conc
open Go.ConcR (KK wgBlock WgAt stA smA rd wr DC0)
open Go.ConcN (WgLive sumTo)

section
variable {P : Program} {Post : Value → World → Prop} {R : Nat → Prop} {N : Nat} {ty : TypeId} {wg : Nat} {Sh : Nat → Prop} {γ γ' : Gh} {O O' : Nat → Prop} {gs gs' : Array Goroutine} {w w' : World} {t u : Trace} {D D' : Nat → WD} {g : Goroutine}

/-- IT CLOSES THE CHANNEL OF TURNS. -/
theorem Well.close {i j : Nat} (hs : g.status = .running) (hmw : mayWake P g = true) (h1 : γ.base ≤ i) (h2 : i < γ.n) (hm : γ.m i = .idle j)
    (H : ∀ w₁ (s r : Nat), Rl N O w w₁ → w₁.heap[(γ.K i).b]? = some (.chan 0 #[] false s r false) → ∃ g' es, stepG P true g w₁ = .go g' (w₁.setChan (γ.K i).b 0 #[] true s r false) es ∧ g'.status = .running ∧
      (∀ e ∈ es, e = ⟨.obj (γ.K i).b, false, true⟩ ∨ e = ⟨.obj (γ.K i).b, true, true⟩) ∧ Well P Post R N ty wg O (γ.set i (.shut j)) g' (w₁.setChan (γ.K i).b 0 #[] true s r false)) : Well P Post R N ty wg O γ g w := by
  intro Sh gs t sl D hx h
  refine pick0 hs (fun w₁ Sh gs t sl D hR hx h => ?_) Sh gs t sl D hx h
  have hb1 := h.base1
  have hne : i ≠ 0 := by omega
  have hnoff := h.notOff h1 h2
  obtain ⟨s, r, hcb⟩ := h.chb i h1 h2
  rw [hm] at hcb
  obtain ⟨g', es, hgo, hrun', hes, hw⟩ := H w₁ s r hR hcb
  have h0 : 0 < gs.size := (Array.getElem?_eq_some_iff.1 hx).1
  have hlt := (Array.getElem?_eq_some_iff.1 hcb).1
  have hN := h.chN i h1 h2
  have hf := h.fit i h1 h2
  rw [hm] at hf
  have hiw := h.iwC h1 h2 (.inl rfl) (cap := 0) (buf := #[]) (cl := true) (s := s) (r := r) (tm := false)
  have hops : ∀ op ∈ MemOp.ofEvents 0 g.frame.fn g.frame.place es, op.g = 0 ∧ (op.act ≠ .mark (.release (stA wg))) := fun op hop => by
    obtain ⟨e, he, rfl⟩ := mem_ofEvents hop
    rcases hes e he with rfl | rfl <;> exact ⟨rfl, by simp [MemAct.ofEvent]⟩
  have hug : ∀ op ∈ MemOp.ofEvents 0 g.frame.fn g.frame.place es, op.g = 0 := fun op hop => (hops op hop).1
  have hd0 : deafBehind γ.deaf es = γ.deaf := deafBehind_none fun e he => by rcases hes e he with rfl | rfl <;> simp
  have relk : ∀ k r, γ.base ≤ k → RelB wg t k r → RelB wg (t ++ MemOp.ofEvents 0 g.frame.fn g.frame.place es) k r := fun k r k1 hr => hr.idle fun op hop e => absurd ((hug op hop).symm.trans e) (by omega)
  have hti : TI (t ++ MemOp.ofEvents 0 g.frame.fn g.frame.place es) (Ac γ) γ.n (w₁.setChan (γ.K i).b 0 #[] true s r false).heap.size (OwF O D) R Sh := by
    rw [setChan_size]
    refine h.ti.app h.ap (.inl rfl) (by omega) (Nat.le_refl _) (fun op hop => ?_) (fun g' _ _ b hb => hb) fun b hb => .inl hb
    obtain ⟨e, he, rfl⟩ := mem_ofEvents hop
    refine ⟨rfl, fun x hx => ?_⟩
    rcases hes e he with rfl | rfl
    · simp [MemAct.ofEvent, MemAct.touch?] at hx
      subst hx
      exact .inr (.inr (.inr ⟨fun ad => by simp, rfl⟩))
    · simp [MemAct.ofEvent, MemAct.touch?] at hx
  -- the worker, as it goes on
  obtain ⟨gi, hgi, hsit, hdfi⟩ := h.wk i (by omega) h2
  have hwoken : woken P g g' (w₁.setChan (γ.K i).b 0 #[] true s r false) gi = gi.again (w₁.setChan (γ.K i).b 0 #[] true s r false) := by unfold woken; simp [hmw, hrun']
  obtain ⟨d, hds, hdO, hdd, hdW⟩ : ∃ d : WD, d.s = .run (.R j) ∧ d.O = (D i).O ∧ d.d = (D i).d ∧ WSit P R N ty wg (γ.K i) d (gi.again (w₁.setChan (γ.K i).b 0 #[] true s r false)) (w₁.setChan (γ.K i).b 0 #[] true s r false) := by
    cases hsi : (D i).s with
    | run p =>
      rw [hsi] at hf
      have hp : p = .R j := by cases p <;> first | (have e : _ = _ := hf; subst e; rfl) | exact hf.elim
      subst hp
      refine ⟨D i, hsi, rfl, rfl, ?_⟩
      have hr : gi.status = .running := by
        have := hsit
        unfold WSit at this
        rw [hsi] at this
        exact this.1.running
      rw [again_running _ (.inl hr)]
      exact hsit.rely fun _ => hiw
    | pr j' =>
      rw [hsi] at hf
      have e : j' = j := hf
      subst e
      unfold WSit at hsit
      rw [hsi] at hsit
      obtain ⟨⟨g₂, z, rfl, hA⟩, hdd⟩ := hsit
      obtain ⟨τ', hτ⟩ := hA.go
      refine ⟨⟨.run (.R j'), τ', (D i).O, 0⟩, rfl, rfl, hdd.symm, ?_⟩
      rw [again_recv_closed (setChan_self hlt)]
      exact ⟨hτ.rely hiw, rfl⟩
    | ps p => rw [hsi] at hf; cases p <;> exact hf.elim
    | quit => rw [hsi] at hf; exact hf.elim
  have hcn : (D i).s.cnt = 1 := by
    cases hsi : (D i).s with
    | run p => rw [hsi] at hf; cases p <;> first | rfl | exact hf.elim
    | pr j' => rfl
    | ps p => rfl
    | quit => rw [hsi] at hf; exact hf.elim
  have hOw : OwF O (setD D i d) = OwF O D := by
    funext k
    unfold OwF
    split
    · rfl
    · by_cases e : k = i
      · subst e; rw [setD_same, hdO]
      · rw [setD_ne D d e]
  have hO := h.chO i h1 h2
  refine .inl ⟨_, _, step0_go hx hgo, hw Sh _ _ sl (setD D i d) (by rw [Array.getElem?_setIfInBounds_self_of_lt (by simpa using h0)]) ?_⟩
  refine h.next (i := i) (S := (· = (γ.K i).b)) rfl rfl rfl id id (by simp) (fun k k1 k2 hki => ?_) (fun k hk => setD_ne D d hk) (fun e => absurd e hne) (fun _ => rfl) chan_chg (fun b e => by rw [e]; exact hN.1)
    (fun k k1 k2 hki b e hb => by have := (hO k (.inr ⟨k1, k2⟩)).1; rw [OwF_pos (by omega)] at this; exact this (e ▸ hb))
    (fun _ _ => ⟨_, by rw [Array.getElem?_setIfInBounds_ne (by omega), Array.getElem?_map, hgi, Option.map_some, hwoken], by rw [setD_same]; exact hdW, by rw [Deaf_other t (fun e => hne e.symm) _ hug, setD_same, hdd]; exact hdfi⟩) (fun _ hlt => by omega)
    (fun k k1 k2 _ => Deaf_other t (by omega) _ hug) (by rw [Deaf_own, h.deaf0]; exact hd0) (fun k k1 k2 => ?_) (fun k k1 k2 => ?_) (fun k k1 k2 => ?_) (fun b hb => by rw [hOw] at hb; exact .inl hb) (by rw [hOw]; exact hti)
    (fun hw => (h.norel hw).app fun op hop => (hops op hop).2) (fun k k1 k2 hr => ?_) (fun ha => ?_) ?_
  · obtain ⟨x, hxk, _⟩ := h.wk k k1 k2
    rw [Array.getElem?_setIfInBounds_ne (by omega), Array.getElem?_map, hxk, Option.map_some]
    refine congrArg some (h.still k1 k2 hxk (fun hbk => ⟨?_, ?_⟩) g g')
    · exact setChan_old ((h.chD k i hbk k2 h1 h2).2 hki).1
    · exact setChan_old fun e => (h.chD i k h1 h2 hbk k2).1 e.symm
  · show fits (if k = i then .shut j else γ.m k) _
    by_cases e : k = i
    · subst e; rw [setD_same, hds, if_pos rfl]; rfl
    · rw [setD_ne D d e, if_neg e]; exact h.fit k k1 k2
  · show ∃ s' r', (w₁.setChan (γ.K i).b 0 #[] true s r false).heap[(γ.K k).b]? = some (Obj.chan 0 #[] (if k = i then MP.shut j else γ.m k).shutB s' r' false)
    by_cases e : k = i
    · subst e; rw [if_pos rfl]; exact ⟨s, r, setChan_self hlt⟩
    · rw [if_neg e]
      obtain ⟨s', r', e'⟩ := h.chb k k1 k2
      exact ⟨s', r', (setChan_old ((h.chD k i k1 k2 h1 h2).2 e).1).trans e'⟩
  · obtain ⟨s', r', e'⟩ := h.chc k k1 k2
    refine ⟨s', r', (setChan_old fun x => (h.chD i k h1 h2 k1 k2).1 x.symm).trans ?_⟩
    by_cases e : k = i
    · subst e
      rw [setD_same, hds]
      rw [show (D k).s.shutC = false by
        cases hsi : (D k).s with
        | run p => rw [hsi] at hf; cases p <;> first | rfl | exact hf.elim
        | pr j' => rfl
        | ps p => rfl
        | quit => rw [hsi] at hf; exact hf.elim] at e'
      exact e'
    · rw [setD_ne D d e]; exact e'
  · by_cases e : k = i
    · subst e; rw [setD_same, hds] at hr; cases hr
    · rw [setD_ne D d e] at hr
      obtain ⟨r, hr⟩ := h.rel k k1 k2 hr
      exact ⟨r, relk k r k1 hr⟩
  · obtain ⟨hf', hq⟩ := h.acq ha
    exact ⟨hf', acqApp hq fun k r k1 _ hr => relk k r k1 hr⟩
  · have := h.mode.same h2 hcn (d := d) (by rw [hds]; rfl) (w' := w₁.setChan (γ.K i).b 0 #[] true s r false) (setChan_old (fun e => hN.2.2.1 e.symm))
    exact this

/-- The channels' blocks, and what goes to the worker, given up. -/
def lessO (O Oc : Nat → Prop) (b c : Nat) : Nat → Prop := fun k => O k ∧ ¬ Oc k ∧ k ≠ b ∧ k ≠ c
def Gh.more (γ : Gh) (K : WK) : Gh := { γ with n := γ.n + 1, K := fun k => if k = γ.n then K else γ.K k, m := fun k => if k = γ.n then .idle 0 else γ.m k, pend := 0 }

/-- IT STARTS A WORKER. -/
theorem Well.spawn {K : WK} {Oc : Nat → Prop} (hs : g.status = .running) (hwp : γ.wp = .opn) (hp : γ.pend = 1) (hdf : γ.deaf = 0) (hsm : γ.n - γ.base < 1000000)
    (hOc : ∀ k, Oc k → O k) (hOb : O K.b ∧ ¬ Oc K.b) (hOcc : O K.c ∧ ¬ Oc K.c) (hbc : K.b ≠ K.c) (hNc : N ≤ K.b ∧ N ≤ K.c)
    (hwg : K.b ≠ wg ∧ K.c ≠ wg)
    (H : ∀ w₁, N ≤ w₁.heap.size → Rl N O w w₁ → WgLive ty wg w₁ → ∃ g' child τ, stepG P true g w₁ = .spawn g' child w₁ #[] ∧ (∃ s r, w₁.heap[K.b]? = some (.chan 0 #[] false s r false)) ∧ (∃ s r, w₁.heap[K.c]? = some (.chan 0 #[] false s r false)) ∧
      WGo P R N ty wg K τ (.R 0) Oc child w₁ ∧ Well P Post R N ty wg (lessO O Oc K.b K.c) (γ.more K) g' w₁) : Well P Post R N ty wg O γ g w := by
  intro Sh gs t sl D hx h
  refine pick0 hs (fun w₁ Sh gs t sl D hR hx h => ?_) Sh gs t sl D hx h
  have hb1 := h.base1
  have hbN := h.baseN
  have hnoff : γ.wp ≠ .off := by rw [hwp]; simp
  obtain ⟨g', child, τ, hgo, hcb, hcc, hW, hw⟩ := H w₁ h.sz hR (h.mode.live hnoff)
  have h0 : 0 < gs.size := (Array.getElem?_eq_some_iff.1 hx).1
  have hrun := runT_crowd_spawn (P := P) (sl := sl) (i := 0) hx hgo
  rw [show MemOp.ofEvents 0 g.frame.fn g.frame.place #[] = #[] from rfl, h.size] at hrun
  refine .inl ⟨_, _, hrun, hw Sh _ _ sl (setD D γ.n ⟨.run (.R 0), τ, Oc, 0⟩) ?_ ?_⟩
  · rw [Array.getElem?_push_lt (by simpa using h0), ← Array.getElem?_eq_getElem, Array.getElem?_setIfInBounds_self_of_lt h0]
  · have hops : (((#[] : Trace).push { g := 0, fn := g.frame.fn, pos := g.frame.place, act := .go γ.n }).push { g := γ.n, fn := child.frame.fn, pos := g.frame.place, act := .start }) = #[{ g := 0, fn := g.frame.fn, pos := g.frame.place, act := .go γ.n }, { g := γ.n, fn := child.frame.fn, pos := g.frame.place, act := .start }] := rfl
    rw [hops]
    have hst : ∀ op ∈ #[({ g := 0, fn := g.frame.fn, pos := g.frame.place, act := .go γ.n } : MemOp), { g := γ.n, fn := child.frame.fn, pos := g.frame.place, act := .start }], op.act ≠ .mark .disable ∧ op.act ≠ .mark .enable ∧ op.act.touch? = none ∧ op.act ≠ .mark (.release (stA wg)) := by
      intro op hop
      simp only [List.mem_toArray, List.mem_cons, List.not_mem_nil, or_false] at hop
      rcases hop with rfl | rfl <;> simp [MemAct.touch?]
    have hdeaf : ∀ k, Deaf (t ++ #[({ g := 0, fn := g.frame.fn, pos := g.frame.place, act := .go γ.n } : MemOp), { g := γ.n, fn := child.frame.fn, pos := g.frame.place, act := .start }]) k = Deaf t k := fun k => ConcN.Deaf_still t k _ fun op hop => ⟨(hst op hop).1, (hst op hop).2.1⟩
    have hAcm : Ac (γ.more K) = fun k => Ac γ k ∨ k = γ.n := by
      funext k
      simp only [Ac, Gh.more]
      exact propext ⟨fun e => by omega, fun e => by omega⟩
    have hOwn : ∀ k, OwF (lessO O Oc K.b K.c) (setD D γ.n ⟨.run (.R 0), τ, Oc, 0⟩) k = if k = 0 then lessO O Oc K.b K.c else if k = γ.n then Oc else (D k).O := fun k => by
      unfold OwF
      split
      · rfl
      · by_cases e : k = γ.n
        · subst e; rw [setD_same, if_pos rfl]
        · rw [setD_ne D _ e, if_neg e]
    have hlessK : ∀ b, lessO O Oc K.b K.c b → O b := fun b hb => hb.1
    have hOle : ∀ k, Ac γ k → ∀ b, OwF (lessO O Oc K.b K.c) (setD D γ.n ⟨.run (.R 0), τ, Oc, 0⟩) k b → OwF O D k b := by
      intro k hk b hb
      rw [hOwn] at hb
      unfold OwF
      split <;> rename_i e
      · rw [if_pos e] at hb; exact hb.1
      · rw [if_neg e, if_neg (by rcases hk with e' | e' <;> omega)] at hb; exact hb
    have hOm : ∀ b, OwF (lessO O Oc K.b K.c) (setD D γ.n ⟨.run (.R 0), τ, Oc, 0⟩) γ.n b ↔ Oc b := fun b => by rw [hOwn, if_neg (by omega), if_pos rfl]
    have hO0 : ∀ b, O b → OwF O D 0 b := fun b hb => hb
    have hDk : ∀ k, k < γ.n → setD D γ.n ⟨.run (.R 0), τ, Oc, 0⟩ k = D k := fun k hk => setD_ne D _ (by omega)
    have hKk : ∀ k, k < γ.n → (γ.more K).K k = γ.K k := fun k hk => by simp only [Gh.more]; rw [if_neg (by omega)]
    have hKn : (γ.more K).K γ.n = K := by simp [Gh.more]
    have hmk : ∀ k, k < γ.n → (γ.more K).m k = γ.m k := fun k hk => by simp only [Gh.more]; rw [if_neg (by omega)]
    have hmn : (γ.more K).m γ.n = .idle 0 := by simp [Gh.more]
    have hcnt : cntTo (γ.n + 1) (setD D γ.n ⟨.run (.R 0), τ, Oc, 0⟩) = cntTo γ.n D + 1 := by
      unfold cntTo
      simp only [sumTo, setD_same]
      rw [ConcN.sumTo_congr (f := fun i => (setD D γ.n ⟨.run (.R 0), τ, Oc, 0⟩ i).s.cnt) (g := fun i => (D i).s.cnt) fun k hk => by rw [hDk k hk]]
      rfl
    have cases_n : ∀ {k}, k < (γ.more K).n → k < γ.n ∨ k = γ.n := fun {k} hk => by have : k < γ.n + 1 := hk; omega
    refine ⟨by simp [h.size, Gh.more], h.base1, by show γ.base ≤ γ.n + 1; omega, fun e => absurd e hnoff, by show γ.n + 1 - γ.base ≤ 1000000; omega, h.sz, by rw [hDk 0 (by omega)]; exact h.zero, fun k k1 k2 => by
        have k2 : k < γ.base := k2
        rw [hDk k (by omega)]; exact h.lv k k1 k2, fun k k1 k2 => ?_, fun k k1 k2 => ?_, fun k k1 k2 => ?_, fun k k1 k2 => ?_, fun k k1 k2 => ?_, fun k k1 k2 p hp => ?_, fun k l k1 k2 l1 l2 => ?_, ?_, ?_, ?_, fun _ => h.shw hnoff, by rw [hdeaf]; exact h.deaf0,
      fun _ => (h.norel hnoff).app fun op hop => (hst op hop).2.2.2, fun k k1 k2 hr => ?_, fun ha => ?_, ?_⟩
    · rcases cases_n k2 with k2 | rfl
      · obtain ⟨x, hxk, hsk, hdk⟩ := h.wk k k1 k2
        refine ⟨x, ?_, by rw [hKk k k2, hDk k k2]; exact hsk, by rw [hdeaf, hDk k k2]; exact hdk⟩
        rw [Array.getElem?_push_lt (by simp [h.size]; omega), ← Array.getElem?_eq_getElem, Array.getElem?_setIfInBounds_ne (by omega)]
        exact hxk
      · refine ⟨child, ?_, by rw [hKn, setD_same]; exact ⟨hW, rfl⟩, ?_⟩
        · rw [show γ.n = (gs.setIfInBounds 0 g').size by simp [h.size], Array.getElem?_push_size]
        · rw [hdeaf, setD_same]
          exact ConcN.Deaf_absent fun i op hi e => by have := h.ti.gs i op hi; omega
    · rcases cases_n k2 with k2 | rfl
      · rw [hmk k k2, hDk k k2]; exact h.fit k k1 k2
      · rw [hmn, setD_same]; rfl
    · rcases cases_n k2 with k2 | rfl
      · rw [hmk k k2, hKk k k2]; exact h.chb k k1 k2
      · rw [hmn, hKn]; exact hcb
    · rcases cases_n k2 with k2 | rfl
      · rw [hDk k k2, hKk k k2]; exact h.chc k k1 k2
      · rw [setD_same, hKn]; exact hcc
    · rcases cases_n k2 with k2 | rfl
      · rw [hKk k k2]; exact h.chN k k1 k2
      · rw [hKn]; exact ⟨hNc.1, hNc.2, hwg⟩
    · rw [hAcm] at hp
      rcases cases_n k2 with k2 | rfl
      · rw [hKk k k2]
        rcases hp with hp | rfl
        · have := h.chO k k1 k2 p hp
          exact ⟨fun e => this.1 (hOle p hp _ e), fun e => this.2 (hOle p hp _ e)⟩
        · have := h.chO k k1 k2 0 (.inl rfl)
          exact ⟨fun e => this.1 (hOc _ ((hOm _).1 e)), fun e => this.2 (hOc _ ((hOm _).1 e))⟩
      · rw [hKn]
        rcases hp with hp | rfl
        · have hn0 : ∀ b, O b → (p = 0 → ¬ lessO O Oc K.b K.c b) → ¬ OwF (lessO O Oc K.b K.c) (setD D γ.n ⟨.run (.R 0), τ, Oc, 0⟩) p b := by
            intro b hb hl e
            by_cases hp0 : p = 0
            · subst hp0; exact hl rfl e
            · have := hOle p hp b e
              exact hp0 (h.ap.own p 0 b hp (.inl rfl) this hb)
          exact ⟨hn0 _ hOb.1 fun _ e => e.2.2.1 rfl, hn0 _ hOcc.1 fun _ e => e.2.2.2 rfl⟩
        · exact ⟨fun e => hOb.2 ((hOm _).1 e), fun e => hOcc.2 ((hOm _).1 e)⟩
    · have k1 : γ.base ≤ k := k1
      have l1 : γ.base ≤ l := l1
      have old : ∀ m, γ.base ≤ m → m < γ.n → (γ.K m).b ≠ K.b ∧ (γ.K m).b ≠ K.c ∧ (γ.K m).c ≠ K.b ∧ (γ.K m).c ≠ K.c := fun m m1 m2 => by
        have := h.chO m m1 m2 0 (.inl rfl)
        exact ⟨fun e => this.1 (by rw [e]; exact hOb.1), fun e => this.1 (by rw [e]; exact hOcc.1), fun e => this.2 (by rw [e]; exact hOb.1), fun e => this.2 (by rw [e]; exact hOcc.1)⟩
      rcases cases_n k2 with k2 | rfl <;> rcases cases_n l2 with l2 | rfl
      · rw [hKk k k2, hKk l l2]; exact h.chD k l k1 k2 l1 l2
      · rw [hKk k k2, hKn]; exact ⟨(old k k1 k2).2.1, fun _ => ⟨(old k k1 k2).1, (old k k1 k2).2.2.2⟩⟩
      · rw [hKk l l2, hKn]; exact ⟨fun e => (old l l1 l2).2.2.1 e.symm, fun _ => ⟨fun e => (old l l1 l2).1 e.symm, fun e => (old l l1 l2).2.2.2 e.symm⟩⟩
      · rw [hKn]; exact ⟨hbc, fun e => absurd rfl e⟩
    · intro p hp b hb
      rw [hAcm] at hp
      rcases hp with hp | rfl
      · exact h.own p hp b (hOle p hp b hb)
      · exact h.own 0 (.inl rfl) b (hOc b ((hOm b).1 hb))
    · have down : ∀ p b, Ac (γ.more K) p → OwF (lessO O Oc K.b K.c) (setD D γ.n ⟨.run (.R 0), τ, Oc, 0⟩) p b → (Ac γ p ∧ OwF O D p b) ∨ (p = γ.n ∧ Oc b) := by
        intro p b hp hb
        rw [hAcm] at hp
        rcases hp with hp | rfl
        · exact .inl ⟨hp, hOle p hp b hb⟩
        · exact .inr ⟨rfl, (hOm b).1 hb⟩
      refine ⟨fun p q b hp hq h3 h4 => ?_, fun p b hp h3 => ?_, fun p b hp h3 => ?_, fun p b hp h3 => ?_, h.ap.rdSh, h.ap.rdLt, h.ap.shLt⟩
      · have key : ∀ p, Ac γ p → OwF (lessO O Oc K.b K.c) (setD D γ.n ⟨.run (.R 0), τ, Oc, 0⟩) p b → Oc b → False := by
          intro p hp h3 h4
          have h5 := hOle p hp b h3
          have e := h.ap.own p 0 b hp (.inl rfl) h5 (hOc b h4)
          subst e
          exact h3.2.1 h4
        have hp2 := hp; have hq2 := hq
        rw [hAcm] at hp2 hq2
        rcases hp2 with hp2 | rfl <;> rcases hq2 with hq2 | rfl
        · exact h.ap.own p q b hp2 hq2 (hOle p hp2 b h3) (hOle q hq2 b h4)
        · exact (key p hp2 h3 ((hOm b).1 h4)).elim
        · exact (key q hq2 h4 ((hOm b).1 h3)).elim
        · rfl
      · rcases down p b hp h3 with ⟨h5, h6⟩ | ⟨_, h6⟩
        · exact h.ap.lt p b h5 h6
        · exact h.ap.lt 0 b (.inl rfl) (hOc b h6)
      · rcases down p b hp h3 with ⟨h5, h6⟩ | ⟨_, h6⟩
        · exact h.ap.ownRd p b h5 h6
        · exact h.ap.ownRd 0 b (.inl rfl) (hOc b h6)
      · rcases down p b hp h3 with ⟨h5, h6⟩ | ⟨_, h6⟩
        · exact h.ap.ownSh p b h5 h6
        · exact h.ap.ownSh 0 b (.inl rfl) (hOc b h6)
    · rw [hAcm]
      refine h.ti.fork (.inl rfl) (h.deaf0.trans hdf) ⟨rfl, rfl⟩ ⟨rfl, rfl⟩ (fun e => by rcases e with e | e <;> omega) (by omega) hOle fun b hb => hOc b ((hOm b).1 hb)
    · rcases cases_n k2 with k2 | rfl
      · rw [hDk k k2] at hr
        obtain ⟨r, hr⟩ := h.rel k k1 k2 hr
        exact ⟨r, hr.idle fun op hop _ => (hst op hop).2.2.1⟩
      · rw [setD_same] at hr; cases hr
    · have ha : γ.acq = true := ha
      have := (h.acq ha).1; rw [hwp] at this; cases this
    · have hmode := h.mode
      unfold Mode at hmode
      rw [hwp] at hmode
      obtain ⟨ho, hat, _⟩ := hmode
      unfold Mode
      have : (γ.more K).wp = .opn := hwp
      rw [this]
      refine ⟨fun k hk => ?_, ?_, Nat.zero_le _⟩
      · rcases cases_n hk with hk | rfl
        · rw [hDk k hk]; exact ho k hk
        · rw [setD_same]; rfl
      · show WgAt ty wg w₁ (((cntTo (γ.n + 1) (setD D γ.n ⟨.run (.R 0), τ, Oc, 0⟩) + 0 : Nat) : Int) * KK) 0
        rw [hcnt, Nat.add_zero]
        rw [hp] at hat
        exact hat
end
end Go.Proofs.Ytnmhgfeglfcbgaa
