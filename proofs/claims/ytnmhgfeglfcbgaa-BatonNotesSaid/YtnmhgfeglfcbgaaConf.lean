/-
  Proved here: what holds of the machine at every moment of a call that starts workers, gives them turns and waits for them; how it is kept by whatever step of whoever.
  Conditions: none beyond each law's own.
-/
import Derived.Test.YtnmhgfeglfcbgaaWork
namespace Go.Proofs.Ytnmhgfeglfcbgaa
open Go.Conc
open Go.ConcR (KK wgBlock WgAt stA smA rd wr mk DC0)
open Go.ConcN (WgLive sumTo)

/-- Where a worker stands. -/
inductive WSt where
  | run (p : Ph)
  | pr (j : Nat)
  | ps (p : Ph)
  | quit
/-- What the starter knows of it. -/
inductive MP where
  | idle (j : Nat)
  | given (j : Nat)
  | shut (j : Nat)
  | gone
def MP.shutB : MP → Bool
  | .shut _ | .gone => true
  | _ => false
def WSt.shutC : WSt → Bool
  | .run .D0 | .run .D1 | .run .D2 | .run .D3 | .run .D4 | .run .D5 | .quit => true
  | _ => false
def WSt.rel : WSt → Bool
  | .run p => p.rel
  | .quit => true
  | _ => false
def WSt.cnt : WSt → Nat
  | .run .D3 | .run .D4 | .run .D5 | .quit => 0
  | _ => 1
def WSt.open : WSt → Bool
  | .run .D3 | .run .D4 | .run .D5 => false
  | _ => true
def fits : MP → WSt → Prop
  | .idle j, .run (.R j') => j' = j
  | .idle j, .pr j' => j' = j
  | .given j, .run (.S j') => j' = j
  | .given j, .ps (.S j') => j' = j
  | .shut j, .run (.R j') => j' = j
  | .shut j, .run (.F j') => j' = j
  | .shut j, .ps (.F j') => j' = j
  | .gone, .run .C | .gone, .run .D0 | .gone, .run .D1 | .gone, .run .D2 | .gone, .run .D3 | .gone, .run .D4 | .gone, .run .D5 | .gone, .quit => True
  | _, _ => False
def Ph.deaf : Ph → Nat
  | .D2 | .D3 | .D4 | .D5 => 1
  | _ => 0

structure WD where
  s : WSt
  τ : Tr
  O : Nat → Prop
  d : Nat
def WD.rk (D : WD) : Rk := (match D.s with | .quit => false | _ => true, D.τ, match D.s with | .run _ => true | _ => false)
def setD (D : Nat → WD) (i : Nat) (d : WD) : Nat → WD := fun k => if k = i then d else D k
theorem setD_same (D : Nat → WD) (i : Nat) (d : WD) : setD D i d i = d := by simp [setD]
theorem setD_ne (D : Nat → WD) {i k : Nat} (d : WD) (h : k ≠ i) : setD D i d k = D k := by simp [setD, h]
def trOf : Nat → Tr
  | 0 => .node Empty Empty.elim
  | n + 1 => .node Unit fun _ => trOf n

inductive WP where
  | off
  | opn
  | seen (vs : Nat)
  | reg
  | fin
/-- What is agreed on: which workers there are, what the starter knows of each, what it has done with the group. -/
structure Gh where
  base : Nat
  n : Nat
  K : Nat → WK
  m : Nat → MP
  pend : Nat
  deaf : Nat
  wp : WP
  acq : Bool
def Gh.set (γ : Gh) (i : Nat) (m : MP) : Gh := { γ with m := fun k => if k = i then m else γ.m k }

/-- Who is at work. -/
def Ac (γ : Gh) (g : Nat) : Prop := g = 0 ∨ (γ.base ≤ g ∧ g < γ.n)
def OwF (O : Nat → Prop) (D : Nat → WD) (g : Nat) : Nat → Prop := if g = 0 then O else (D g).O
theorem OwF_zero (O : Nat → Prop) (D : Nat → WD) : OwF O D 0 = O := rfl
theorem OwF_pos {O : Nat → Prop} {D : Nat → WD} {g : Nat} (h : 1 ≤ g) : OwF O D g = (D g).O := by unfold OwF; rw [if_neg (by omega)]

section
variable (P : Program) (R : Nat → Prop) (N : Nat) (ty : TypeId) (wg : Nat)

def WSit (K : WK) (D : WD) (g : Goroutine) (w : World) : Prop :=
  match D.s with
  | .run p => WGo P R N ty wg K D.τ p D.O g w ∧ D.d = p.deaf
  | .pr j => (∃ g₂ z, g = parked g₂ #[rcase K.b z] (.recv true) ∧ AtR P R N ty wg K D.τ j D.O g₂ z w) ∧ D.d = 0
  | .ps p => (∃ g₂ z p' v, g = parked g₂ #[scase K.c v z] .send ∧ AtS P R N ty wg K D.τ p p' v D.O g₂ z w) ∧ D.d = 0
  | .quit => ∃ q, D.τ = trOf q ∧ QuitsD P q D.d g

def cntTo (n : Nat) (D : Nat → WD) : Nat := sumTo n fun i => (D i).s.cnt

def Mode (γ : Gh) (D : Nat → WD) (w : World) : Prop :=
  match γ.wp with
  | .off => True
  | .opn => (∀ i, i < γ.n → (D i).s.open = true) ∧ WgAt ty wg w (((cntTo γ.n D + γ.pend : Nat) : Int) * KK) 0 ∧ γ.pend ≤ 1
  | .seen vs => (∀ i, i < γ.n → (D i).s.open = true) ∧ WgAt ty wg w (((cntTo γ.n D : Nat) : Int) * KK) 0 ∧ cntTo γ.n D ≤ vs
  | .reg => ((∀ i, i < γ.n → (D i).s.open = true) ∧ 1 ≤ cntTo γ.n D ∧ WgAt ty wg w (((cntTo γ.n D : Nat) : Int) * KK + 1) 0) ∨
      (∃ l, l < γ.n ∧ ((D l).s = .run .D3 ∨ (D l).s = .run .D4) ∧ (∀ i, i < γ.n → i ≠ l → (D i).s = .quit) ∧ WgAt ty wg w 1 0) ∨
      (∃ l, l < γ.n ∧ (D l).s = .run .D5 ∧ (∀ i, i < γ.n → i ≠ l → (D i).s = .quit) ∧ WgAt ty wg w 0 0) ∨
      ((∀ i, i < γ.n → (D i).s = .quit) ∧ WgAt ty wg w 0 1)
  | .fin => (∀ i, i < γ.n → (D i).s = .quit) ∧ WgAt ty wg w 0 0

/-- Worker k has said its release, heard; what it has touched since is the group, atomically, deaf. -/
structure RelB (t : Trace) (k r : Nat) : Prop where
  act : t.act? r = some (.mark (.releaseMerge (stA wg)))
  g : t.g? r = some k
  heard : t.heard r
  after : ∀ i op a, r < i → t[i]? = some op → op.g = k → op.act.touch? = some a → inB (· = wg) a.loc ∧ a.kind = .atomic ∧ ¬ t.heard i

/-- Since these workers are there nobody has said a plain release of the group. -/
def NRel (base : Nat) (t : Trace) : Prop := ∃ p0, p0 ≤ t.size ∧ (∀ (k : Nat) (op : MemOp), t[k]? = some op → base ≤ op.g → p0 ≤ k) ∧ ∀ k, p0 ≤ k → t.act? k ≠ some (.mark (.release (stA wg)))

structure Conf (Sh : Nat → Prop) (γ : Gh) (O : Nat → Prop) (gs : Array Goroutine) (w : World) (t : Trace) (D : Nat → WD) : Prop where
  size : gs.size = γ.n
  base1 : 1 ≤ γ.base
  baseN : γ.base ≤ γ.n
  off : γ.wp = .off → γ.base = γ.n
  small : γ.n - γ.base ≤ 1000000
  sz : N ≤ w.heap.size
  zero : (D 0).s = .quit
  lv : ∀ i, 1 ≤ i → i < γ.base → (D i).s = .quit
  wk : ∀ i, 1 ≤ i → i < γ.n → ∃ g, gs[i]? = some g ∧ WSit P R N ty wg (γ.K i) (D i) g w ∧ Deaf t i = (D i).d
  fit : ∀ i, γ.base ≤ i → i < γ.n → fits (γ.m i) (D i).s
  chb : ∀ i, γ.base ≤ i → i < γ.n → ∃ s r, w.heap[(γ.K i).b]? = some (.chan 0 #[] (γ.m i).shutB s r false)
  chc : ∀ i, γ.base ≤ i → i < γ.n → ∃ s r, w.heap[(γ.K i).c]? = some (.chan 0 #[] (D i).s.shutC s r false)
  chN : ∀ i, γ.base ≤ i → i < γ.n → N ≤ (γ.K i).b ∧ N ≤ (γ.K i).c ∧ (γ.K i).b ≠ wg ∧ (γ.K i).c ≠ wg
  chO : ∀ i, γ.base ≤ i → i < γ.n → ∀ g, Ac γ g → ¬ OwF O D g (γ.K i).b ∧ ¬ OwF O D g (γ.K i).c
  chD : ∀ i k, γ.base ≤ i → i < γ.n → γ.base ≤ k → k < γ.n → (γ.K i).b ≠ (γ.K k).c ∧ (i ≠ k → (γ.K i).b ≠ (γ.K k).b ∧ (γ.K i).c ≠ (γ.K k).c)
  own : ∀ g, Ac γ g → ∀ b, OwF O D g b → N ≤ b
  ap : Ap (Ac γ) w.heap.size (OwF O D) R Sh
  ti : TI t (Ac γ) γ.n w.heap.size (OwF O D) R Sh
  shw : γ.wp ≠ .off → Sh wg ∧ N ≤ wg
  deaf0 : Deaf t 0 = γ.deaf
  norel : γ.wp ≠ .off → NRel wg γ.base t
  rel : ∀ i, γ.base ≤ i → i < γ.n → (D i).s.rel = true → ∃ r, RelB wg t i r
  acq : γ.acq = true → γ.wp = .fin ∧ ∃ q, t.act? q = some (.mark (.acquire (stA wg))) ∧ t.g? q = some 0 ∧ t.heard q ∧ ∀ i, γ.base ≤ i → i < γ.n → ∃ r, RelB wg t i r ∧ r < q
  mode : Mode ty wg γ D w
end

section
variable {P : Program} {R : Nat → Prop} {N : Nat} {ty : TypeId} {wg : Nat} {Sh : Nat → Prop} {γ γ' : Gh} {O O' : Nat → Prop} {gs gs' : Array Goroutine} {w w' : World} {t u : Trace} {D D' : Nat → WD}

theorem NRel.app {base : Nat} (h : NRel wg base t) (hu : ∀ op ∈ u, op.act ≠ .mark (.release (stA wg))) : NRel wg base (t ++ u) := by
  obtain ⟨p0, h1, h2, h3⟩ := h
  refine ⟨p0, by simp; omega, fun k op hk hb => ?_, fun k hk e => ?_⟩
  · rcases getElem?_append_cases hk with ⟨_, hk'⟩ | ⟨hge, _⟩
    · exact h2 k op hk' hb
    · omega
  · obtain ⟨op, ho, hoa⟩ := Option.map_eq_some_iff.1 e
    rcases getElem?_append_cases ho with ⟨_, ho'⟩ | ⟨_, hou⟩
    · exact h3 k hk (by rw [act?_of ho', hoa])
    · exact hu op hou hoa

theorem Mode.live (h : Mode ty wg γ D w) (hw : γ.wp ≠ .off) : WgLive ty wg w := by
  unfold Mode at h
  split at h
  · rename_i e; exact absurd e hw
  · exact ⟨_, _, h.2.1⟩
  · exact ⟨_, _, h.2.1⟩
  · rcases h with h | ⟨l, _, _, _, h⟩ | ⟨l, _, _, _, h⟩ | h
    · exact ⟨_, _, h.2.2⟩
    · exact ⟨_, _, h⟩
    · exact ⟨_, _, h⟩
    · exact ⟨_, _, h.2⟩
  · exact ⟨_, _, h.2⟩

theorem WSit.rely {K : WK} {d : WD} {g : Goroutine} (h : WSit P R N ty wg K d g w) (hr : d.s ≠ .quit → IW N d.O ty wg w w') : WSit P R N ty wg K d g w' := by
  unfold WSit at h ⊢
  split at h <;> rename_i e
  · exact ⟨h.1.rely (hr (by rw [e]; simp)), h.2⟩
  · obtain ⟨⟨g₂, z, e1, h1⟩, h2⟩ := h
    exact ⟨⟨g₂, z, e1, h1.rely (hr (by rw [e]; simp))⟩, h2⟩
  · obtain ⟨⟨g₂, z, p', v, e1, h1⟩, h2⟩ := h
    exact ⟨⟨g₂, z, p', v, e1, h1.rely (hr (by rw [e]; simp))⟩, h2⟩
  · exact h

/-- What one does to the world. -/
structure Chg (S : Nat → Prop) (w w' : World) : Prop where
  os : w'.os = w.os
  tape : w'.tape = w.tape
  output : w'.output = w.output
  size : w.heap.size ≤ w'.heap.size
  block : ∀ k, k < w.heap.size → ¬ S k → w'.heap[k]? = w.heap[k]?
theorem Chg.rl {S : Nat → Prop} (h : Chg S w w') (hN : ∀ b, S b → N ≤ b) (hO : ∀ b, S b → ¬ O b) : Rl N O w w' :=
  ⟨h.os, h.tape, h.output, h.size, fun k hk hkO => h.block k hk fun hS => hkO.elim (fun e => by have := hN k hS; omega) (hO k hS)⟩
theorem Chg.refl (S : Nat → Prop) (w : World) : Chg S w w := ⟨rfl, rfl, rfl, Nat.le_refl _, fun _ _ _ => rfl⟩

theorem Conf.notOff (h : Conf P R N ty wg Sh γ O gs w t D) {i : Nat} (h1 : γ.base ≤ i) (h2 : i < γ.n) : γ.wp ≠ .off := fun e => by have := h.off e; omega

theorem Conf.actOf (h : Conf P R N ty wg Sh γ O gs w t D) {i : Nat} (h1 : 1 ≤ i) (_h2 : i < γ.n) (hs : (D i).s ≠ .quit) : γ.base ≤ i := by
  rcases Nat.lt_or_ge i γ.base with hlt | hge
  · exact absurd (h.lv i h1 hlt) hs
  · exact hge

/-- The whole of it, behind a step of goroutine i's. -/
theorem Conf.next (h : Conf P R N ty wg Sh γ O gs w t D) {i : Nat} {S : Nat → Prop} (hb : γ'.base = γ.base) (hn : γ'.n = γ.n) (hK : γ'.K = γ.K) (hoff : γ'.wp ≠ .off → γ.wp ≠ .off) (hoff' : γ'.wp = .off → γ.wp = .off)
    (hsz : gs'.size = gs.size) (hgs : ∀ k, 1 ≤ k → k < γ.n → k ≠ i → gs'[k]? = gs[k]?) (hD : ∀ k, k ≠ i → D' k = D k) (h0 : i = 0 → D' = D) (hO0 : i ≠ 0 → O' = O)
    (hchg : Chg S w w') (hSN : ∀ b, S b → N ≤ b) (hSd : ∀ k, γ.base ≤ k → k < γ.n → k ≠ i → ∀ b, S b → ¬ (D k).O b)
    (hi : 1 ≤ i → i < γ.n → ∃ g, gs'[i]? = some g ∧ WSit P R N ty wg (γ.K i) (D' i) g w' ∧ Deaf (t ++ u) i = (D' i).d) (hlv : 1 ≤ i → i < γ.base → (D' i).s = .quit)
    (hdf : ∀ k, 1 ≤ k → k < γ.n → k ≠ i → Deaf (t ++ u) k = Deaf t k) (hd0 : Deaf (t ++ u) 0 = γ'.deaf)
    (hfit : ∀ k, γ.base ≤ k → k < γ.n → fits (γ'.m k) (D' k).s)
    (hchb : ∀ k, γ.base ≤ k → k < γ.n → ∃ s r, w'.heap[(γ.K k).b]? = some (.chan 0 #[] (γ'.m k).shutB s r false))
    (hchc : ∀ k, γ.base ≤ k → k < γ.n → ∃ s r, w'.heap[(γ.K k).c]? = some (.chan 0 #[] (D' k).s.shutC s r false))
    (hOi : ∀ b, OwF O' D' i b → OwF O D i b ∨ (w.heap.size ≤ b ∧ b < w'.heap.size))
    (hti : TI (t ++ u) (Ac γ) γ.n w'.heap.size (OwF O' D') R Sh)
    (hnr : γ'.wp ≠ .off → NRel wg γ.base (t ++ u)) (hrel : ∀ k, γ.base ≤ k → k < γ.n → (D' k).s.rel = true → ∃ r, RelB wg (t ++ u) k r)
    (hacq : γ'.acq = true → γ'.wp = .fin ∧ ∃ q, (t ++ u).act? q = some (.mark (.acquire (stA wg))) ∧ (t ++ u).g? q = some 0 ∧ (t ++ u).heard q ∧ ∀ i, γ.base ≤ i → i < γ.n → ∃ r, RelB wg (t ++ u) i r ∧ r < q)
    (hmode : Mode ty wg γ' D' w') : Conf P R N ty wg Sh γ' O' gs' w' (t ++ u) D' := by
  have hAc : Ac γ' = Ac γ := by funext g; simp only [Ac, hb, hn]
  have hOw : ∀ g, g ≠ i → OwF O' D' g = OwF O D g := by
    intro g hg
    unfold OwF
    split
    · rename_i e
      exact hO0 (fun hi => hg (e.trans hi.symm))
    · rw [hD g hg]
  have hsize := hchg.size
  have hsz' : N ≤ w'.heap.size := Nat.le_trans h.sz hsize
  have hlive : γ.wp ≠ .off → WgLive ty wg w' := fun hw => hmode.live fun e => hw (hoff' e)
  have hOi' : ∀ g, ∀ b, OwF O' D' g b → OwF O D g b ∨ (g = i ∧ w.heap.size ≤ b ∧ b < w'.heap.size) := by
    intro g b hgb
    by_cases e : g = i
    · subst e; exact (hOi b hgb).imp id fun x => ⟨rfl, x⟩
    · rw [hOw g e] at hgb; exact .inl hgb
  have hchlt : ∀ k, γ.base ≤ k → k < γ.n → (γ.K k).b < w.heap.size ∧ (γ.K k).c < w.heap.size := fun k h1 h2 => by
    obtain ⟨s, r, e⟩ := h.chb k h1 h2
    obtain ⟨s', r', e'⟩ := h.chc k h1 h2
    exact ⟨(Array.getElem?_eq_some_iff.1 e).1, (Array.getElem?_eq_some_iff.1 e').1⟩
  refine ⟨by rw [hsz, hn]; exact h.size, by rw [hb]; exact h.base1, by rw [hb, hn]; exact h.baseN, fun e => by rw [hb, hn]; exact h.off (hoff' e), by rw [hb, hn]; exact h.small, hsz', ?_, fun k h1 h2 => ?_, fun k h1 h2 => ?_, ?_, ?_, ?_, ?_, ?_, ?_, ?_, ?_, ?_, ?_, hd0, by rw [hb]; exact hnr, ?_, ?_, hmode⟩
  · by_cases e : i = 0
    · rw [h0 e]; exact h.zero
    · rw [hD 0 fun x => e x.symm]; exact h.zero
  · rw [hb] at h2
    by_cases e : k = i
    · subst e; exact hlv h1 h2
    · rw [hD k e]; exact h.lv k h1 h2
  · rw [hn] at h2
    rw [hK]
    by_cases e : k = i
    · subst e; exact hi h1 h2
    · obtain ⟨g, hg, hs, hd⟩ := h.wk k h1 h2
      refine ⟨g, by rw [hgs k h1 h2 e]; exact hg, by
        rw [hD k e]
        refine hs.rely fun hq => ?_
        have hk := h.actOf h1 h2 hq
        exact ⟨hchg.rl hSN (hSd k hk h2 e), hsz', hlive (h.notOff hk h2)⟩, by rw [hdf k h1 h2 e, hd, hD k e]⟩
  · rw [hb, hn]; exact hfit
  · rw [hb, hn, hK]; exact hchb
  · rw [hb, hn, hK]; exact hchc
  · rw [hb, hn, hK]; exact h.chN
  · rw [hb, hn, hK, hAc]
    intro k h1 h2 g hg
    refine ⟨fun hx => ?_, fun hx => ?_⟩
    · rcases hOi' g _ hx with hx | ⟨_, hx, _⟩
      · exact (h.chO k h1 h2 g hg).1 hx
      · have := (hchlt k h1 h2).1; omega
    · rcases hOi' g _ hx with hx | ⟨_, hx, _⟩
      · exact (h.chO k h1 h2 g hg).2 hx
      · have := (hchlt k h1 h2).2; omega
  · rw [hb, hn, hK]; exact h.chD
  · rw [hAc]
    intro g hg b hx
    rcases hOi' g b hx with hx | ⟨_, hx, _⟩
    · exact h.own g hg b hx
    · exact Nat.le_trans h.sz hx
  · rw [hAc]
    refine ⟨fun g g' b hg hg' h1 h2 => ?_, fun g b hg h1 => ?_, fun g b hg h1 h2 => ?_, fun g b hg h1 h2 => ?_, h.ap.rdSh, fun b hb => Nat.lt_of_lt_of_le (h.ap.rdLt b hb) hsize, fun b hb => Nat.lt_of_lt_of_le (h.ap.shLt b hb) hsize⟩
    · rcases hOi' g b h1 with h1 | ⟨e1, h1, _⟩ <;> rcases hOi' g' b h2 with h2 | ⟨e2, h2, _⟩
      · exact h.ap.own g g' b hg hg' h1 h2
      · have := h.ap.lt g b hg h1; omega
      · have := h.ap.lt g' b hg' h2; omega
      · rw [e1, e2]
    · rcases hOi' g b h1 with h1 | ⟨_, _, h1⟩
      · exact Nat.lt_of_lt_of_le (h.ap.lt g b hg h1) hsize
      · exact h1
    · rcases hOi' g b h1 with h1 | ⟨_, h1, _⟩
      · exact h.ap.ownRd g b hg h1 h2
      · have := h.ap.rdLt b h2; omega
    · rcases hOi' g b h1 with h1 | ⟨_, h1, _⟩
      · exact h.ap.ownSh g b hg h1 h2
      · have := h.ap.shLt b h2; omega
  · rw [hAc, hn]; exact hti
  · exact fun e => h.shw (hoff e)
  · rw [hb, hn]; exact hrel
  · rw [hb, hn]; exact hacq

/-- A draw of the scheduler's. -/
theorem Conf.at (h : Conf P R N ty wg Sh γ O gs w t D) (d : Nat) : Conf P R N ty wg Sh γ O gs (w.at d) t D := by
  have hm : Mode ty wg γ D (w.at d) := h.mode
  refine ⟨h.size, h.base1, h.baseN, h.off, h.small, h.sz, h.zero, h.lv, fun i h1 h2 => ?_, h.fit, h.chb, h.chc, h.chN, h.chO, h.chD, h.own, h.ap, h.ti, h.shw, h.deaf0, h.norel, h.rel, h.acq, hm⟩
  obtain ⟨g, hg, hs, hd⟩ := h.wk i h1 h2
  exact ⟨g, hg, hs.rely fun hq => ⟨⟨rfl, rfl, rfl, Nat.le_refl _, fun _ _ _ => rfl⟩, h.sz, hm.live (h.notOff (h.actOf h1 h2 hq) h2)⟩, hd⟩
end
end Go.Proofs.Ytnmhgfeglfcbgaa
