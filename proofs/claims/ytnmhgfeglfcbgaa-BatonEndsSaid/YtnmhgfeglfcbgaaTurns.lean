/-
  Proved here: the starter's operations as rules of a walk: a channel made; a turn given; an answer taken; a channel closed; a worker started; what an interface holds.
  Conditions: none beyond each law's own.
-/
import Derived.Test.YtnmhgfeglfcbgaaCalg
import Derived.Test.YtnmhgfeglfcbgaaBide
namespace Go.Proofs.Ytnmhgfeglfcbgaa
open Go.Conc
open Go.ConcR (KK wgBlock WgAt stA smA rd wr DC0)
open Go.ConcN (WgLive)

/-- A channel that nobody has used or closed: nothing is in it. -/
def chn (g : Nat) : Ent := ⟨(· = g), fun w => ∃ s r, w.heap[g]? = some (.chan 0 #[] false s r false), fun _ _ h ⟨s, r, hp⟩ => ⟨s, r, (h g rfl).trans hp⟩, true⟩

theorem Mem.chan {W : WR} {w : WO} {L : List Ent} (h : Mem W w L) : Mem W (w.to (w.alloc (.chan 0 #[] false 0 0 false))) (chn w.heap.size :: L) := by
  refine h.grow (es := [chn w.heap.size]) rfl rfl rfl (by simp) (fun k hk => heap_alloc_old w.toWorld _ hk) ?_ ?_ (by simp)
  · intro x hx
    have hx : x = chn w.heap.size := by simpa using hx
    subst hx
    exact ⟨fun k hk => by have hk : k = w.heap.size := hk; subst hk; simp, ⟨0, 0, heap_alloc_new w.toWorld _⟩⟩
  · intro x hx k hk
    have hx : x = chn w.heap.size := by simpa using hx
    subst hx
    have hk : k = w.heap.size := hk
    omega

section
variable {P : Program} {n : Nat} {W : Bs P} {q : Md} {Q : Exit → St → List Ent → W.Γ → Prop} {σ : St} {L : List Ent} {γ : W.Γ} {ops : Array Oper} {rest : List Oper}
  {dst : Option Nat} {ty : TypeId} {pos : String} {aft : Array Edge} {gd : Option (Nat × Bool)}

class ChanT (P : Program) (t : Nat) : Prop where
  fact : ∃ d e i, P.underlying t = some (.chan d e) ∧ P.info? e = some i

theorem SL_makeChan {x : Operand} {t : Nat} [hT : ChanT P t] (hx : ev σ x = .int .i64 0) (hq : q.chg = true)
    (hg : wantedσ ops σ ⟨dst, .makeChan t x, ty, pos, aft, gd⟩ = true) (hd : dstOk n dst = true)
    (h : ∀ g : Nat, SL P n W q ops Q rest (updO σ dst (.chan (some g))) (chn g :: L) γ) : SL P n W q ops Q (⟨dst, .makeChan t x, ty, pos, aft, gd⟩ :: rest) σ L γ := by
  obtain ⟨d, e, i, h1, h2⟩ := hT.fact
  have hr : ∀ w : World, (execOp (ev σ) ⟨dst, .makeChan t x, ty, pos, aft, gd⟩).run P w = .ok (.value (.chan (some w.heap.size))) (w.alloc (.chan 0 #[] false 0 0 false)) ∧
      (execOp (ev σ) ⟨dst, .makeChan t x, ty, pos, aft, gd⟩).events P w #[] = #[] := fun w => by
    constructor
    · simp [execOp, Instr.makeChan, hx, run_underlying h1, typeInfo, h2, IntKind.max, go_sem]
      decide
    · simp [execOp, Instr.makeChan, hx, run_underlying h1, typeInfo, h2, IntKind.max, go_sem]
  refine SL_core hq (Nat.le_of_ble_eq_true rfl) hg hd fun w hw => ⟨_, _, _, (hr w).1, ?_, hw.chan, fun _ => List.sublist_cons_self _ _, .inl rfl, h _⟩
  rw [(hr w).2]; exact Kept.alloc _ _ _ _

/-- What an interface holds, asked for with 'ok'. -/
class NotI (P : Program) (t : Nat) : Prop where
  fact : ∃ d, P.underlying t = some d ∧ (match d with | .interface _ => false | _ => true) = true
theorem SL_assertYes {x : Operand} {t u : Nat} {v : Value} [hO : NotI P t] (hx : ev σ x = .iface t v)
    (hg : wantedσ ops σ ⟨dst, .typeAssert x u t true, ty, pos, aft, gd⟩ = true) (hd : dstOk n dst = true)
    (h : SL P n W q ops Q rest (updO σ dst (.tuple #[v, .bool true])) L γ) : SL P n W q ops Q (⟨dst, .typeAssert x u t true, ty, pos, aft, gd⟩ :: rest) σ L γ := by
  obtain ⟨d, h1, h2⟩ := hO.fact
  refine SL_val _ rfl hg hd (ValOp.of fun w => ?_) h
  cases d with
  | interface m => cases h2
  | _ => constructor <;> simp [execOp, Instr.typeAssert, hx, run_underlying h1]
end

section
variable {P : Program} {Post : Value → World → Prop} {w0 : WR} {ty : TypeId} {wg : Nat} {L L' : List Ent} {γ : Gh} {p : Sem Next}

/-- What is so of one's own blocks. -/
theorem Well.own {R : Nat → Prop} {N : Nat} {O : Nat → Prop} {g : Goroutine} {w : World} (H : (∀ b, O b → N ≤ b ∧ b < w.heap.size ∧ ¬ R b) → (γ.wp ≠ .off → ¬ O wg) → (∀ i, γ.base ≤ i → i < γ.n → N ≤ (γ.K i).b ∧ N ≤ (γ.K i).c ∧ ¬ O (γ.K i).b ∧ ¬ O (γ.K i).c) → Well P Post R N ty wg O γ g w) : Well P Post R N ty wg O γ g w :=
  fun Sh gs t sl D hx h => H (fun b hb => ⟨h.own 0 (.inl rfl) b hb, h.ap.lt 0 b (.inl rfl) hb, h.ap.ownRd 0 b (.inl rfl) hb⟩) (fun hnoff e => h.ap.ownSh 0 wg (.inl rfl) e (h.shw hnoff).1)
    (fun i h1 h2 => ⟨(h.chN i h1 h2).1, (h.chN i h1 h2).2.1, (h.chO i h1 h2 0 (.inl rfl)).1, (h.chO i h1 h2 0 (.inl rfl)).2⟩) Sh gs t sl D hx h

/-- A TURN IS GIVEN. -/
theorem XL_send {Kc : Value → List Ent → Gh → Prop} {i j : Nat} {v : Value} (z : Value) (h1 : γ.base ≤ i) (h2 : i < γ.n) (hm : γ.m i = .idle j) (hl : j < (γ.K i).lim)
    (hr : ∀ w, p.run P w = .ok (.comm #[scase (γ.K i).b v z] true .send) w ∧ p.events P w #[] = #[])
    (h : Kc undef L (γ.set i (.given j))) : XL (BM P Post w0 ty wg) p Kc L γ := by
  unfold XL
  intro b k cs ops ix rest o a ho hw hp hk hn w hwm
  have hst : ∀ w₁, stepG P true (G (b.at a (.inRegion ops (ix :: rest) :: k)) cs) w₁ = .comm (G (b.at a (.inRegion ops (ix :: rest) :: k)) cs) #[scase (γ.K i).b v z] true .send w₁ #[] := fun w₁ => by
    have h := stepG_comm (P := P) (main := true) (cs := cs) (k := k) (rest := rest) ho hw hk (by rw [hp]; exact (hr w₁).1)
    rw [show listed P b.fn a o w₁ = #[] by unfold listed; rw [hp, (hr w₁).2, seen_none]] at h
    exact h
  refine Well.send rfl h1 h2 hm hl (fun w₁ _ => hst w₁) fun w₁ r => ?_
  rw [served_G, ho]
  exact hn _ _ _ h { toWorld := w₁, O := w.O, R := w.R } (hwm.rl r)

/-- AN ANSWER IS TAKEN. -/
theorem XL_recv {Kc : Value → List Ent → Gh → Prop} {i j : Nat} {v : Value} {m' : MP} (z : Value) (h1 : γ.base ≤ i) (h2 : i < γ.n)
    (hm : (γ.m i = .given j ∧ v = (γ.K i).note j ∧ m' = .idle (j + 1)) ∨ (γ.m i = .shut j ∧ v = (γ.K i).rest j ∧ m' = .gone))
    (hr : ∀ w, p.run P w = .ok (.comm #[rcase (γ.K i).c z] true (.recv false)) w ∧ p.events P w #[] = #[])
    (h : Kc v L (γ.set i m')) : XL (BM P Post w0 ty wg) p Kc L γ := by
  unfold XL
  intro b k cs ops ix rest o a ho hw hp hk hn w hwm
  have hst : ∀ w₁, stepG P true (G (b.at a (.inRegion ops (ix :: rest) :: k)) cs) w₁ = .comm (G (b.at a (.inRegion ops (ix :: rest) :: k)) cs) #[rcase (γ.K i).c z] true (.recv false) w₁ #[] := fun w₁ => by
    have h := stepG_comm (P := P) (main := true) (cs := cs) (k := k) (rest := rest) ho hw hk (by rw [hp]; exact (hr w₁).1)
    rw [show listed P b.fn a o w₁ = #[] by unfold listed; rw [hp, (hr w₁).2, seen_none]] at h
    exact h
  refine Well.recv rfl h1 h2 hm (fun w₁ _ => hst w₁) fun w₁ r => ?_
  rw [served_G, ho]
  exact hn _ _ _ h { toWorld := w₁, O := w.O, R := w.R } (hwm.rl r)

/-- A PROGRAM IS TOLD THAT NO TURN IS LEFT. -/
theorem XO_close {Kc : Value → List Ent → Gh → Prop} {i j : Nat} {σ : St} {x : Operand} {tys : Array TypeId} {dst : Option Nat} {ty' : TypeId} {pos : String} {aft : Array Edge} {gd : Option (Nat × Bool)}
    (h1 : γ.base ≤ i) (h2 : i < γ.n) (hm : γ.m i = .idle j) (hx : ev σ x = .chan (some (γ.K i).b)) (h : Kc (.tuple #[]) L (γ.set i (.shut j))) :
    XO (BM P Post w0 ty wg) ⟨dst, .call { callee := .builtin .close, args := #[x], argTypes := tys }, ty', pos, aft, gd⟩ (ev σ) Kc L γ := by
  unfold XO
  intro b k cs ops ix rest a ho hw he hk hn w hwm
  refine Well.own fun _ _ hch => ?_
  obtain ⟨c1, _, c3, _⟩ := hch i h1 h2
  refine Well.close rfl ?_ h1 h2 hm (fun w₁ s r hr hc => ?_)
  · simp [mayWake, G, Frame.at, ho]
  · obtain ⟨e1, e2⟩ := run_closes (P := P) (dst := dst) (ty := ty') (pos := pos) (aft := aft) (gd := gd) (tys := tys) hx w₁ s r hc
    refine ⟨G (b.at (a.put dst (.tuple #[])) (.inRegion ops rest :: k)) cs, listed P b.fn a _ w₁, stepG_value ho hw hk (by rw [he]; exact e1), rfl, fun e hee => ?_,
      hn _ _ _ h { toWorld := w₁.setChan (γ.K i).b 0 #[] true s r false, O := w.O, R := w.R } (hwm.rl (hr.trans (chan_rl c1 c3)))⟩
    have := mem_listed hee
    rw [he, e2] at this
    simpa using this

/-- A WORKER IS STARTED: its box and its two channels are made over. -/
theorem XL_go {Kc : Value → List Ent → Gh → Prop} {K : WK} {C : Nat} {cells : List Value} {ct : TypeId} {d : Deferred} {f : Fn} {c : Array Value} {Lo : List Ent} (hwp : γ.wp = .opn) (hp : γ.pend = 1) (hdf : γ.deaf = 0) (hsm : γ.n - γ.base < 1000000)
    (hr : ∀ w, p.run P w = .ok (.spawn d) w ∧ p.events P w #[] = #[]) (hd : d.target = .fn f c)
    (hchild : AtL (BW P w0 ty wg K) (Ph.R 0) (born P d) (blk C ct cells :: Lo)) (hLo : ∀ e ∈ Lo, e.mine = false ∧ ∀ k, e.S k → k < w0.heap.size) (hsub : Lo.Sublist L)
    (h : Kc undef L (γ.more K)) : XL (BM P Post w0 ty wg) p Kc (blk C ct cells :: chn K.c :: chn K.b :: L) γ := by
  unfold XL
  intro b k cs ops ix rest o a ho hw hpp hk hn w hwm
  have hSC : (blk C ct cells).S C := by unfold blk; rfl
  have hmC : (blk C ct cells).mine = true := by unfold blk; rfl
  have hSC' : ∀ k, (blk C ct cells).S k → k = C := fun k hk => by unfold blk at hk; exact hk
  have m0' : blk C ct cells ∈ blk C ct cells :: chn K.c :: chn K.b :: L := List.mem_cons_self ..
  have m1' : chn K.c ∈ blk C ct cells :: chn K.c :: chn K.b :: L := by simp
  have m2' : chn K.b ∈ blk C ct cells :: chn K.c :: chn K.b :: L := by simp
  have oC := hwm.own _ m0' C hSC (.inl hmC)
  have oc := hwm.own _ m1' K.c rfl (.inl rfl)
  have ob := hwm.own _ m2' K.b rfl (.inl rfl)
  have hs1 := List.pairwise_cons.1 hwm.sep
  have hs2 := List.pairwise_cons.1 hs1.2
  have hs3 := List.pairwise_cons.1 hs2.2
  have hbC : K.b ≠ C := fun e => hs1.1 (chn K.b) (by simp) C hSC e.symm
  have hcC : K.c ≠ C := fun e => hs1.1 (chn K.c) (by simp) C hSC e.symm
  have hbc : K.b ≠ K.c := fun e => hs2.1 (chn K.b) (by simp) K.c rfl e.symm
  refine Well.own fun hown hwg' _ => ?_
  have hwg := hwg' (by rw [hwp]; simp)
  refine Well.spawn (K := K) (Oc := (· = C)) rfl hwp hp hdf hsm (fun k e => e ▸ oC) ⟨ob, hbC⟩ ⟨oc, hcC⟩ hbc ⟨(hown _ ob).1, (hown _ oc).1⟩ ⟨fun e => hwg (e ▸ ob), fun e => hwg (e ▸ oc)⟩ fun w₁ hsz r hlive => ?_
  have hm1 := hwm.rl r
  have hCwg : C ≠ wg := fun e => hwg (e ▸ oC)
  have hsubL : (blk C ct cells :: Lo).Sublist (blk C ct cells :: chn K.c :: chn K.b :: L) := ((hsub.cons _).cons _).cons_cons _
  have hmc : Mem w0 { toWorld := w₁, O := (· = C), R := w.R } (blk C ct cells :: Lo) := by
    have h' := hm1.sublist hsubL
    refine ⟨h'.os, h'.tape, h'.output, h'.size, h'.ok, h'.sep, fun e he k hk hmn => ?_, h'.bnd, h'.old⟩
    rcases List.mem_cons.1 he with rfl | he
    · exact hSC' k hk
    · obtain ⟨e1, e2⟩ := hLo e he
      rcases hmn with hmn | hmn
      · rw [e1] at hmn; cases hmn
      · have h3 := e2 k hk
        have hmn : w0.heap.size ≤ k := hmn
        omega
  obtain ⟨τ, hτ⟩ := ((hchild _ hmc).resolve_left (by simp [Ph.rel])).resolve_left (fun e => hCwg e.symm)
  refine ⟨G (b.at (a.put o.dst undef) (.inRegion ops rest :: k)) cs, born P d, τ, ?_, (hm1.ok _ m2').holds, (hm1.ok _ m1').holds, hτ, hn _ _ _ h { toWorld := w₁, O := lessO w.O (· = C) K.b K.c, R := w.R } ?_⟩
  · have e := stepG_spawn (P := P) (main := true) (cs := cs) (k := k) (rest := rest) (w := w₁) ho hw hk (by rw [hpp]; exact (hr w₁).1) hd
    rw [show listed P b.fn a o w₁ = #[] by unfold listed; rw [hpp, (hr w₁).2, seen_none]] at e
    exact e
  · have h' := hm1.tail.tail.tail
    refine ⟨h'.os, h'.tape, h'.output, h'.size, h'.ok, h'.sep, fun e he k hk hmn => ⟨h'.own e he k hk hmn, fun e' => ?_, fun e' => ?_, fun e' => ?_⟩, h'.bnd, h'.old⟩
    · have e' : k = C := e'
      exact hs1.1 e (by simp [he]) C hSC (e' ▸ hk)
    · exact hs3.1 e he K.b rfl (e' ▸ hk)
    · exact hs2.1 e (by simp [he]) K.c rfl (e' ▸ hk)
end

section
open Go.Conc.Lib Go.ConcR.Gen
open Go.ConcR (Payload)
variable [Payload] {Lk : WgLink} {P : Program} {Post : Value → World → Prop} {w0 : WR} {wg : Nat} {L L' : List Ent} {γ : Gh} {p : Sem Next}

/-- THE GROUP's COUNT GOES UP. -/
theorem XL_add (H : WgLib P Lk) {Kc : Value → List Ent → Gh → Prop} (hwp : γ.wp = .opn) (hp : γ.pend = 0) (hdf : γ.deaf = 0)
    (hr : ∀ w, p.run P w = .ok (.enter Lk.add #[.pointer (some ⟨wg, 0, none⟩), .int .i64 1]) w ∧ p.events P w #[] = #[])
    (h : Kc (.tuple #[]) L { γ with pend := 1 }) : XL (BM P Post w0 Lk.tWg wg) p Kc L γ := by
  unfold XL
  intro b k cs ops ix rest o a ho hw hpp hk hn w hwm
  refine (BM P Post w0 Lk.tWg wg).step _ _ _ _ rfl fun w₁ _ r => ?_
  have hev : listed P b.fn a o w₁ = #[] := by unfold listed; rw [hpp, (hr w₁).2, seen_none]
  refine ⟨_, w₁, _, stepG_enter ho hw hk (by rw [hpp]; exact (hr w₁).1), by rw [hev]; exact Kept.idle _ _ _, ?_⟩
  rw [enter_at _ H.f_add (c := body_add Lk) rfl, show (fun k => w.O k ∨ (w₁.heap.size ≤ k ∧ k < w₁.heap.size)) = w.O from WO.same { toWorld := w₁, O := w.O, R := w.R }]
  refine wAdd (L := Lk) H hwp hp hdf fun w' hw' => ?_
  rw [ho]
  exact hn _ _ _ h { toWorld := w', O := w.O, R := w.R } ((hwm.rl r).rl hw'.rl)

/-- IT WAITS UNTIL ALL HAVE JOINED. -/
theorem XL_wait (H : WgLib P Lk) {Kc : Value → List Ent → Gh → Prop} (hwp : γ.wp = .opn) (hp : γ.pend = 0) (hdf : γ.deaf = 0) (hgone : ∀ k, γ.base ≤ k → k < γ.n → γ.m k = .gone)
    (hr : ∀ w, p.run P w = .ok (.enter Lk.wait #[.pointer (some ⟨wg, 0, none⟩)]) w ∧ p.events P w #[] = #[])
    (h : Kc (.tuple #[]) L { γ with wp := .fin, acq := true }) : XL (BM P Post w0 Lk.tWg wg) p Kc L γ := by
  unfold XL
  intro b k cs ops ix rest o a ho hw hpp hk hn w hwm
  refine (BM P Post w0 Lk.tWg wg).step _ _ _ _ rfl fun w₁ _ r => ?_
  have hev : listed P b.fn a o w₁ = #[] := by unfold listed; rw [hpp, (hr w₁).2, seen_none]
  refine ⟨_, w₁, _, stepG_enter ho hw hk (by rw [hpp]; exact (hr w₁).1), by rw [hev]; exact Kept.idle _ _ _, ?_⟩
  rw [enter_at _ H.f_wait (c := body_wait Lk) rfl, show (fun k => w.O k ∨ (w₁.heap.size ≤ k ∧ k < w₁.heap.size)) = w.O from WO.same { toWorld := w₁, O := w.O, R := w.R }]
  refine wWait (L := Lk) H hwp hp hdf hgone fun w' hw' => ?_
  rw [ho]
  exact hn _ _ _ h { toWorld := w', O := w.O, R := w.R } ((hwm.rl r).rl hw'.rl)
end
end Go.Proofs.Ytnmhgfeglfcbgaa
