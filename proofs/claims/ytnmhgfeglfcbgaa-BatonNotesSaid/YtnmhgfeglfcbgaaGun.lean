/-
  Proved here: rules of a walk without a world: the frame as a function of slots, the memory as a list of disjoint pieces; one rule for each form of code and operation.
  Conditions: none beyond each rule's own.
-/
import Derived.WalkKit
import Derived.ScopeJumps
import Derived.Deep.QuietTactic
import Derived.Deep.AppendLies
import Derived.Conc.CompanyMem
import Derived.Conc.AppendEvents3
import Derived.Test.YtnmhgfeglfcbgaaOrd
import Derived.Conc.AppendWalk
import Derived.Conc.SmallLaws
import Derived.Lib.MinMax
namespace Go.Proofs.Ytnmhgfeglfcbgaa
open Go.RowKit Go.Conc

/-! ### The frame as a function -/
abbrev St := Nat → Value
def upd (σ : St) (d : Nat) (v : Value) : St := fun i => bif Nat.beq i d then v else σ i
def ev (σ : St) : Operand → Value
  | .tmp t => σ t
  | .const v => v
  | .global g => .pointer (some ⟨g, 0, none⟩)
  | .func f => .func (.func f) #[] #[]

structure Rep (n : Nat) (σ : St) (a : Act) : Prop where
  defers : a.defers = []
  size : a.tmps.size = n
  get : ∀ i, a.tmps.getD i undef = σ i

theorem Rep.eval {n : Nat} {σ : St} {a : Act} (h : Rep n σ a) : a.eval = ev σ := by
  funext x; cases x
  · exact h.get _
  all_goals rfl

theorem Rep.put {n : Nat} {σ : St} {a : Act} (h : Rep n σ a) {d : Nat} (hd : d < n) (v : Value) : Rep n (upd σ d v) (a.put (some d) v) := by
  refine ⟨h.defers, by simp [Act.put, h.size], fun i => ?_⟩
  have hs := h.size
  have hg := h.get i
  have ho : a.tmps.getD i undef = (a.tmps[i]?).getD undef := by simp
  have hn : (a.tmps.setIfInBounds d v).getD i undef = ((a.tmps.setIfInBounds d v)[i]?).getD undef := by simp
  show (a.tmps.setIfInBounds d v).getD i undef = _
  rw [hn, Array.getElem?_setIfInBounds]
  rw [ho] at hg
  unfold upd
  by_cases e : d = i
  · subst e; simp [hs, hd]
  · have : Nat.beq i d = false := by
      rw [← Bool.not_eq_true, Nat.beq_eq]; exact fun h => e h.symm
    rw [this, if_neg e]; exact hg

/-! ### The memory as pieces -/
structure Ent where
  S : Nat → Prop
  p : World → Prop
  loc : ∀ w w' : World, (∀ k, S k → w'.heap[k]? = w.heap[k]?) → p w → p w'
  mine : Bool

/-- A world, and which blocks of it are one's own. -/
structure WO extends World where
  O : Nat → Prop
  R : Nat → Prop
instance : CoeOut WO World := ⟨WO.toWorld⟩
/-- A world, and which of its blocks may be read. -/
structure WR extends World where
  R : Nat → Prop
instance : CoeOut WR World := ⟨WR.toWorld⟩
/-- Behind a step: what was made is one's own. -/
def WO.to (w : WO) (w' : World) : WO := { toWorld := w', O := fun k => w.O k ∨ (w.heap.size ≤ k ∧ k < w'.heap.size), R := w.R }
/-- Its owner may read it. -/
def WO.rd (w : WO) (k : Nat) : Prop := w.O k ∨ w.R k
@[simp] theorem WO.to_world (w : WO) (w' : World) : (w.to w').toWorld = w' := rfl

structure Ent.ok (e : Ent) (w : World) : Prop where
  lt : ∀ k, e.S k → k < w.heap.size
  holds : e.p w

structure Mem (W : WR) (w : WO) (L : List Ent) : Prop where
  os : w.os = W.os
  tape : w.tape = W.tape
  output : w.output = W.output
  size : W.heap.size ≤ w.heap.size
  ok : ∀ e ∈ L, e.ok w
  sep : L.Pairwise (fun a b => ∀ k, a.S k → ¬ b.S k)
  own : ∀ e ∈ L, ∀ k, e.S k → e.mine = true ∨ W.heap.size ≤ k → w.O k
  bnd : w.R = W.R
  old : ∀ e ∈ L, ∀ k, e.S k → k < W.heap.size → W.R k

def Knows (W : WR) (L : List Ent) (p : WO → Prop) : Prop := ∀ w : WO, Mem W w L → p w

theorem Mem.tail {W : WR} {w : WO} {e : Ent} {L : List Ent} (h : Mem W w (e :: L)) : Mem W w L :=
  ⟨h.os, h.tape, h.output, h.size, fun x hx => h.ok x (List.mem_cons_of_mem _ hx), (List.pairwise_cons.1 h.sep).2, fun x hx => h.own x (List.mem_cons_of_mem _ hx), h.bnd, fun x hx => h.old x (List.mem_cons_of_mem _ hx)⟩

theorem Mem.perm {W : WR} {w : WO} {L L' : List Ent} (h : Mem W w L) (hp : L.Perm L') : Mem W w L' :=
  ⟨h.os, h.tape, h.output, h.size, fun x hx => h.ok x (hp.mem_iff.2 hx),
    (hp.pairwise_iff (fun {_ _} hxy k hy hx => hxy k hx hy)).1 h.sep, fun x hx => h.own x (hp.mem_iff.2 hx), h.bnd, fun x hx => h.old x (hp.mem_iff.2 hx)⟩

theorem Mem.sublist {W : WR} {w : WO} {L L' : List Ent} (h : Mem W w L) (hs : L'.Sublist L) : Mem W w L' :=
  ⟨h.os, h.tape, h.output, h.size, fun x hx => h.ok x (hs.subset hx), h.sep.sublist hs, fun x hx => h.own x (hs.subset hx), h.bnd, fun x hx => h.old x (hs.subset hx)⟩

/-- What another does: the old blocks, and one's own, stay. -/
structure Rl (N : Nat) (O : Nat → Prop) (w w₁ : World) : Prop where
  os : w₁.os = w.os
  tape : w₁.tape = w.tape
  output : w₁.output = w.output
  size : w.heap.size ≤ w₁.heap.size
  block : ∀ k, k < w.heap.size → (k < N ∨ O k) → w₁.heap[k]? = w.heap[k]?

theorem Rl.refl (N : Nat) (O : Nat → Prop) (w : World) : Rl N O w w := ⟨rfl, rfl, rfl, Nat.le_refl _, fun _ _ _ => rfl⟩
theorem Rl.trans {N : Nat} {O : Nat → Prop} {w w₁ w₂ : World} (h : Rl N O w w₁) (h' : Rl N O w₁ w₂) : Rl N O w w₂ :=
  ⟨h'.os.trans h.os, h'.tape.trans h.tape, h'.output.trans h.output, Nat.le_trans h.size h'.size, fun k hk hO => (h'.block k (Nat.lt_of_lt_of_le hk h.size) hO).trans (h.block k hk hO)⟩

theorem Mem.rl {W : WR} {w : WO} {w₁ : World} {L : List Ent} (h : Mem W w L) (r : Rl W.heap.size w.O w w₁) : Mem W { toWorld := w₁, O := w.O, R := w.R } L :=
  ⟨r.os.trans h.os, r.tape.trans h.tape, r.output.trans h.output, Nat.le_trans h.size r.size, fun x hx => by
    have hx' := h.ok x hx
    refine ⟨fun k hk => Nat.lt_of_lt_of_le (hx'.lt k hk) r.size, x.loc w w₁ (fun k hk => r.block k (hx'.lt k hk) ?_) hx'.holds⟩
    rcases Nat.lt_or_ge k W.heap.size with h1 | h1
    · exact .inl h1
    · exact .inr (h.own x hx k hk (.inr h1)), h.sep, h.own, h.bnd, h.old⟩

/-- THE ONE LAW OF CHANGE: the head piece gives way to others; nothing outside it that was there turns. -/
theorem Mem.change {W : WR} {w : WO} {w' : World} {e : Ent} {es L : List Ent} (h : Mem W w (e :: L))
    (hos : w'.os = w.os) (htp : w'.tape = w.tape) (hout : w'.output = w.output) (hsz : w.heap.size ≤ w'.heap.size)
    (hk : ∀ k, k < w.heap.size → ¬ e.S k → w'.heap[k]? = w.heap[k]?)
    (hok : ∀ x ∈ es, x.ok w') (hS : ∀ x ∈ es, ∀ k, x.S k → e.S k ∨ w.heap.size ≤ k)
    (hsep : es.Pairwise (fun a b => ∀ k, a.S k → ¬ b.S k)) (hmine : ∀ x ∈ es, x.mine = true → e.mine = true) : Mem W (w.to w') (es ++ L) := by
  have hs := List.pairwise_cons.1 h.sep
  refine ⟨hos.trans h.os, htp.trans h.tape, hout.trans h.output, Nat.le_trans h.size hsz, fun x hx => ?_, ?_, fun x hx k hxk hN => ?_, h.bnd, fun x hx k hxk hN => ?_⟩
  · rcases List.mem_append.1 hx with hx | hx
    · exact hok x hx
    · have hx' := h.ok x (List.mem_cons_of_mem _ hx)
      refine ⟨fun k hk => Nat.lt_of_lt_of_le (hx'.lt k hk) hsz, x.loc w w' (fun k hkS => hk k (hx'.lt k hkS) (fun he => hs.1 x hx k he hkS)) hx'.holds⟩
  · refine List.pairwise_append.2 ⟨hsep, hs.2, fun a ha b hb k hak hbk => ?_⟩
    rcases hS a ha k hak with h1 | h1
    · exact hs.1 b hb k h1 hbk
    · have := (h.ok b (List.mem_cons_of_mem _ hb)).lt k hbk; omega
  · rcases List.mem_append.1 hx with hx | hx
    · rcases hS x hx k hxk with h1 | h1
      · exact .inl (h.own e (List.mem_cons_self ..) k h1 (hN.imp (hmine x hx) id))
      · exact .inr ⟨h1, (hok x hx).lt k hxk⟩
    · exact .inl (h.own x (List.mem_cons_of_mem _ hx) k hxk hN)
  · rcases List.mem_append.1 hx with hx | hx
    · rcases hS x hx k hxk with h1 | h1
      · exact h.old e (List.mem_cons_self ..) k h1 hN
      · have := h.size; omega
    · exact h.old x (List.mem_cons_of_mem _ hx) k hxk hN

/-- Nothing that was there turns; new pieces lie in new blocks. -/
theorem Mem.grow {W : WR} {w : WO} {w' : World} {es L : List Ent} (h : Mem W w L)
    (hos : w'.os = w.os) (htp : w'.tape = w.tape) (hout : w'.output = w.output) (hsz : w.heap.size ≤ w'.heap.size)
    (hk : ∀ k, k < w.heap.size → w'.heap[k]? = w.heap[k]?)
    (hok : ∀ x ∈ es, x.ok w') (hS : ∀ x ∈ es, ∀ k, x.S k → w.heap.size ≤ k)
    (hsep : es.Pairwise (fun a b => ∀ k, a.S k → ¬ b.S k)) : Mem W (w.to w') (es ++ L) := by
  refine ⟨hos.trans h.os, htp.trans h.tape, hout.trans h.output, Nat.le_trans h.size hsz, fun x hx => ?_, ?_, fun x hx k hxk hN => ?_, h.bnd, fun x hx k hxk hN => ?_⟩
  · rcases List.mem_append.1 hx with hx | hx
    · exact hok x hx
    · have hx' := h.ok x hx
      exact ⟨fun k hk => Nat.lt_of_lt_of_le (hx'.lt k hk) hsz, x.loc w w' (fun k hkS => hk k (hx'.lt k hkS)) hx'.holds⟩
  · refine List.pairwise_append.2 ⟨hsep, h.sep, fun a ha b hb k hak hbk => ?_⟩
    have := hS a ha k hak
    have := (h.ok b hb).lt k hbk; omega
  · rcases List.mem_append.1 hx with hx | hx
    · exact .inr ⟨hS x hx k hxk, (hok x hx).lt k hxk⟩
    · exact .inl (h.own x hx k hxk hN)
  · rcases List.mem_append.1 hx with hx | hx
    · have := hS x hx k hxk; have := h.size; omega
    · exact h.old x hx k hxk hN

theorem perm_mid (pre post : List Ent) (e : Ent) : (pre ++ e :: post).Perm (e :: (pre ++ post)) := List.perm_middle

/-- A block that is known whole, none of it frozen. -/
def blk (g : Nat) (t : TypeId) (cs : List Value) : Ent :=
  ⟨(· = g), fun w => w.heap[g]? = some (.cells cs.toArray t (0, 0)), fun _ _ h hp => (h g rfl).trans hp, true⟩

/-- All that was there in a world. -/
def snap (W : World) : Ent :=
  ⟨(· < W.heap.size), fun w => ∀ k, k < W.heap.size → w.heap[k]? = W.heap[k]?, fun _ _ h hp k hk => (h k hk).trans (hp k hk), false⟩

/-- Whatever is known of some blocks. -/
def ro (S : Nat → Prop) (p : World → Prop) (loc : ∀ w w' : World, (∀ k, S k → w'.heap[k]? = w.heap[k]?) → p w → p w') : Ent := ⟨S, p, loc, false⟩

theorem Knows.cons {W : WR} {L : List Ent} {p : WO → Prop} (e : Ent) (h : Knows W L p) : Knows W (e :: L) p := fun w hw => h w hw.tail
theorem Knows.mono {W : WR} {L : List Ent} {p q : WO → Prop} (h : Knows W L p) (hpq : ∀ w, p w → q w) : Knows W L q := fun w hw => hpq w (h w hw)
theorem Knows.mem {W : WR} {L : List Ent} {e : Ent} (h : e ∈ L) : Knows W L (fun w => e.p w) := fun _ hw => (hw.ok e h).holds
theorem Knows.sub {W : WR} {L L' : List Ent} {p : WO → Prop} (h : Knows W L p) (hs : L.Sublist L') : Knows W L' p := fun w hw => h w (hw.sublist hs)
theorem Knows.head {W : WR} {L : List Ent} {e : Ent} : Knows W (e :: L) (fun w => e.p w) := Knows.mem (List.mem_cons_self ..)

/-! ### Slots, guards -/
def updO (σ : St) (d : Option Nat) (v : Value) : St := match d with | some d => upd σ d v | none => σ
def dstOk (n : Nat) (d : Option Nat) : Bool := match d with | some d => Nat.blt d n | none => true
def yieldσ (ops : Array Oper) (σ : St) (j : Nat) : Option Bool :=
  match (ops[j]?).bind (·.dst) with
  | some d => (match σ d with | .bool b => some b | _ => none)
  | none => none
def wantedσ (ops : Array Oper) (σ : St) (o : Oper) : Bool :=
  match o.guard with
  | none => true
  | some (j, want) => match yieldσ ops σ j with
    | some b => (match b, want with | true, true => true | false, false => true | _, _ => false)
    | none => false

theorem Rep.putO {n : Nat} {σ : St} {a : Act} (h : Rep n σ a) {d : Option Nat} (hd : dstOk n d = true) (v : Value) : Rep n (updO σ d v) (a.put d v) := by
  cases d with
  | none => exact h
  | some d => exact h.put (by simpa [dstOk, Nat.blt_eq] using hd) v

theorem Rep.wanted {n : Nat} {σ : St} {a : Act} (h : Rep n σ a) (ops : Array Oper) (o : Oper) : Region.wanted o (yielded ops a.tmps) = wantedσ ops σ o := by
  unfold Region.wanted wantedσ
  cases o.guard with
  | none => rfl
  | some g =>
    obtain ⟨j, want⟩ := g
    have hy : yielded ops a.tmps j = yieldσ ops σ j := by
      unfold yielded yieldσ
      cases (ops[j]?).bind (·.dst) with
      | none => rfl
      | some d =>
        have hg := h.get d
        simp only [Option.bind_some]
        have ho : a.tmps.getD d undef = (a.tmps[d]?).getD undef := by simp
        rw [ho] at hg
        cases hx : a.tmps[d]? with
        | none => rw [hx] at hg; simp at hg; rw [← hg]; rfl
        | some v => rw [hx] at hg; simp at hg; rw [← hg]; cases v <;> rfl
    simp only [hy]
    cases yieldσ ops σ j with
    | none => rfl
    | some b => cases b <;> cases want <;> rfl


/-! ### The judgements -/
/-- What a step may list: plain accesses of cells: of one's own blocks, or of what was made; or reads of old ones. -/
def EvOk (R : Nat → Prop) (O : Nat → Prop) (w w' : World) (e : Event) : Prop :=
  (∃ a, e.loc = .cell a ∧ a.block < w'.heap.size ∧ (O a.block ∨ w.heap.size ≤ a.block ∨ (e.write = false ∧ R a.block))) ∨ ∃ m, e = ⟨.mark m, false, true⟩ ∧ Neutral m

/-- What a step leaves alone, and what it lists. -/
structure Kept (R : Nat → Prop) (O : Nat → Prop) (w w' : World) (es : Array Event) : Prop where
  os : w'.os = w.os
  tape : w'.tape = w.tape
  output : w'.output = w.output
  size : w.heap.size ≤ w'.heap.size
  block : ∀ k, k < w.heap.size → ¬ O k → w'.heap[k]? = w.heap[k]?
  evs : ∀ e ∈ es, EvOk R O w w' e

theorem Kept.idle (R : Nat → Prop) (O : Nat → Prop) (w : World) : Kept R O w w #[] := ⟨rfl, rfl, rfl, Nat.le_refl _, fun _ _ _ => rfl, fun e he => by simp at he⟩

/-- Who walks: what he leans on is 'Rl', what he promises 'Kept'; 'B': all is well from here on, with these blocks his own, at this point of what has been agreed on. -/
structure Bs (P : Program) where
  w0 : WR
  Γ : Type
  main : Bool
  B : (Nat → Prop) → Γ → Goroutine → World → Prop
  step : ∀ (O : Nat → Prop) (γ : Γ) (g : Goroutine) (w : World), g.status = .running →
    (∀ w₁, w0.heap.size ≤ w₁.heap.size → Rl w0.heap.size O w w₁ → ∃ g' w' es, stepG P main g w₁ = .go g' w' es ∧ Kept w0.R O w₁ w' es ∧ B (fun k => O k ∨ (w₁.heap.size ≤ k ∧ k < w'.heap.size)) γ g' w') → B O γ g w
instance {P : Program} : CoeOut (Bs P) WR := ⟨Bs.w0⟩

section
variable {P : Program} (n : Nat) (W : Bs P)

def At (γ : W.Γ) (F : Act → Goroutine) (σ : St) (L : List Ent) : Prop := ∀ (a : Act) (w : WO), Rep n σ a → Mem W w L → W.B w.O γ (F a) w

def Aft (b : Frame) (k : List Item) (cs : List Frame) : Exit → St → List Ent → W.Γ → Prop
  | .normal, σ, L, γ => At n W γ (fun a => G (b.at a k) cs) σ L
  | .exit id, σ, L, γ => ∃ k', exitTo id k = some k' ∧ At n W γ (fun a => G (b.at a k') cs) σ L
  | .ret, σ, L, γ => ∀ todo, At n W γ (fun a => G { b.at a todo with mode := .returning } cs) σ L
  | _, _, _, _ => False

variable {n W}
theorem Aft.push {b : Frame} {x : Item} {k : List Item} {cs : List Frame} {e : Exit} {σ : St} {L : List Ent} {γ : W.Γ} (hx : x.plain = true) (he : e ≠ .normal)
    (h : Aft n W b k cs e σ L γ) : Aft n W b (x :: k) cs e σ L γ := by
  cases e with
  | normal => exact absurd rfl he
  | exit id => obtain ⟨k', hk, hg⟩ := h; exact ⟨k', by cases x <;> simp_all [exitTo, Item.plain], hg⟩
  | ret => exact h
  | goto l => exact h
  | panic ch => exact h
  | outgrown => exact h

theorem WO.same (w : WO) : (fun k => w.O k ∨ (w.heap.size ≤ k ∧ k < w.heap.size)) = w.O := by
  funext k; exact propext ⟨fun h => h.elim id fun h => by omega, .inl⟩

/-- A step that turns nothing. -/
theorem At.idle {γ : W.Γ} {F F' : Act → Goroutine} {σ : St} {L : List Ent} (hr : ∀ a, (F a).status = .running)
    (hs : ∀ a w, Rep n σ a → stepG P W.main (F a) w = .go (F' a) w #[]) (h : At n W γ F' σ L) : At n W γ F σ L := fun a w ha hw =>
  W.step _ _ _ _ (hr a) fun w₁ _ r => ⟨F' a, w₁, #[], hs a w₁ ha, Kept.idle _ _ _, by
    have hw1 := hw.rl r
    have := h a _ ha hw1
    rw [WO.same { toWorld := w₁, O := w.O, R := w.R }]
    exact this⟩

/-- A step that goes, in whatever world the pieces lie. -/
theorem At.go {γ : W.Γ} {F : Act → Goroutine} {σ : St} {L : List Ent} (hr : ∀ a, (F a).status = .running)
    (h : ∀ (a : Act) (w : WO), Rep n σ a → Mem W w L → ∃ g' w' es, stepG P W.main (F a) w = .go g' w' es ∧ Kept W.w0.R w.O w w' es ∧ W.B (w.to w').O γ g' w') : At n W γ F σ L := fun a w ha hw =>
  W.step _ _ _ _ (hr a) fun w₁ _ r => h a { toWorld := w₁, O := w.O, R := w.R } ha (hw.rl r)
end

section
variable (P : Program) (n : Nat) (W : Bs P)
def SC (c : Code) (Q : Exit → St → List Ent → W.Γ → Prop) (σ : St) (L : List Ent) (γ : W.Γ) : Prop :=
  ∀ (b : Frame) (k : List Item) (cs : List Frame), b.kind ≠ .early → (∀ e σ' L' γ', Q e σ' L' γ' → Aft n W b k cs e σ' L' γ') → At n W γ (fun a => G (b.at a (.code c :: k)) cs) σ L
end

section rules
variable {P : Program} {n : Nat} {W : Bs P} {Q : Exit → St → List Ent → W.Γ → Prop} {σ : St} {L : List Ent} {γ : W.Γ}

def seqQ {Γ : Type} (K : St → List Ent → Γ → Prop) (Q : Exit → St → List Ent → Γ → Prop) : Exit → St → List Ent → Γ → Prop
  | .normal, σ, L, γ => K σ L γ
  | e, σ, L, γ => Q e σ L γ

def blockQ {Γ : Type} (id : Nat) (Q : Exit → St → List Ent → Γ → Prop) : Exit → St → List Ent → Γ → Prop
  | .exit id', σ, L, γ => bif Nat.beq id' id then Q .normal σ L γ else Q (.exit id') σ L γ
  | e, σ, L, γ => Q e σ L γ

theorem SC.mono {c : Code} {Q' : Exit → St → List Ent → W.Γ → Prop} (h : SC P n W c Q σ L γ) (hq : ∀ e σ L γ, Q e σ L γ → Q' e σ L γ) : SC P n W c Q' σ L γ :=
  fun b k cs hk hc => h b k cs hk fun e σ' L' γ' q => hc e σ' L' γ' (hq _ _ _ _ q)
theorem SC.pure {c : Code} {φ : Prop} (hφ : ∀ w, Mem W w L → φ) (h : φ → SC P n W c Q σ L γ) : SC P n W c Q σ L γ := fun b k cs hk hc a w ha hw => h (hφ w hw) b k cs hk hc a w ha hw
theorem SC.weaken {c : Code} {L' : List Ent} (hL : ∀ w, Mem W w L → Mem W w L') (h : SC P n W c Q σ L' γ) : SC P n W c Q σ L γ := fun b k cs hk hc a w ha hw => h b k cs hk hc a w ha (hL w hw)

theorem SC_skip (h : Q .normal σ L γ) : SC P n W .skip Q σ L γ := fun _ _ _ _ hc => At.idle (fun _ => rfl) (fun _ _ _ => stepG_skip) (hc _ _ _ _ h)
theorem SC_label {l : Nat} (h : Q .normal σ L γ) : SC P n W (.label l) Q σ L γ := fun _ _ _ _ hc => At.idle (fun _ => rfl) (fun _ _ _ => stepG_label) (hc _ _ _ _ h)
theorem SC_ret (h : Q .ret σ L γ) : SC P n W .ret Q σ L γ := fun _ _ _ _ hc => At.idle (fun _ => rfl) (fun _ _ _ => stepG_ret') (hc _ _ _ _ h _)
theorem SC_exit {id : Nat} (h : Q (.exit id) σ L γ) : SC P n W (.exit id) Q σ L γ := fun _ _ _ _ hc => by
  obtain ⟨k', hk', hg⟩ := hc _ _ _ _ h
  exact At.idle (fun _ => rfl) (fun _ _ _ => stepG_exit hk') hg

theorem SC_seq {x y : Code} (h : SC P n W x (seqQ (SC P n W y Q) Q) σ L γ) : SC P n W (x.seq y) Q σ L γ := fun b k cs hk hc =>
  At.idle (fun _ => rfl) (fun _ _ _ => stepG_seq) (h b (.code y :: k) cs hk fun e σ' L' γ' q => by
    cases e with
    | normal => exact q b k cs hk hc
    | exit id => exact (hc _ _ _ _ q).push rfl (by simp)
    | ret => exact (hc _ _ _ _ q).push (x := .code y) rfl (by simp)
    | goto l => exact hc _ _ _ _ q
    | panic ch => exact hc _ _ _ _ q
    | outgrown => exact hc _ _ _ _ q)

theorem SC_cond {c : Operand} {x y : Code} {b : Bool} (hc : ev σ c = .bool b) (ht : b = true → SC P n W x Q σ L γ) (hf : b = false → SC P n W y Q σ L γ) :
    SC P n W (.cond c x y) Q σ L γ := fun b' k cs hk hq => by
  refine At.idle (F' := fun a => G (b'.at a (.code (if b then x else y) :: k)) cs) (fun _ => rfl) (fun a _ ha => stepG_cond (by rw [ha.eval]; exact hc)) ?_
  cases b
  · exact hf rfl b' k cs hk hq
  · exact ht rfl b' k cs hk hq

theorem SC_block {id : Nat} {c : Code} (h : SC P n W c (blockQ id Q) σ L γ) : SC P n W (.block id c) Q σ L γ := fun b k cs hk hc =>
  At.idle (fun _ => rfl) (fun _ _ _ => stepG_block) (h b (.inBlock id :: k) cs hk fun e σ' L' γ' q => by
    match e, q with
    | .exit jd, q =>
      simp only [blockQ] at q
      by_cases hid : jd = id
      · rw [show Nat.beq jd id = true from by rw [Nat.beq_eq]; exact hid] at q
        exact ⟨k, by simp [exitTo, hid], hc _ _ _ _ q⟩
      · rw [show Nat.beq jd id = false from by rw [← Bool.not_eq_true, Nat.beq_eq]; exact hid] at q
        obtain ⟨k', hk', hg⟩ := hc _ _ _ _ q
        have : (id == jd) = false := by simp; exact fun h => hid h.symm
        exact ⟨k', by simp [exitTo, this, hk'], hg⟩
    | .normal, q => exact At.idle (fun _ => rfl) (fun _ _ _ => stepG_inBlock) (hc _ _ _ _ q)
    | .goto _, q => exact hc _ _ _ _ q
    | .ret, q => exact fun todo => hc _ _ _ _ q todo
    | .panic _, q => exact hc _ _ _ _ q
    | .outgrown, q => exact hc _ _ _ _ q)

/-- A loop: what holds at each head, with a number that each round lowers; pieces may be let go; what has been agreed on may turn. -/
theorem SC_loopG {c : Code} (I : Nat → St → List Ent → W.Γ → Prop) (m : Nat) (Lc : List Ent) (hs : Lc.Sublist L) (h0 : I m σ Lc γ)
    (round : ∀ m σ L γ, I m σ L γ → SC P n W c (seqQ (fun σ' L' γ' => ∃ m' Lc, m' < m ∧ Lc.Sublist L' ∧ I m' σ' Lc γ') Q) σ L γ) : SC P n W (.loop c) Q σ L γ := by
  intro b k cs hk hc
  have key : ∀ m σ L γ, I m σ L γ → At n W γ (fun a => G (b.at a (.code c :: .inLoop c :: k)) cs) σ L := by
    intro m
    induction m using Nat.strongRecOn with
    | _ m ih =>
      intro σ L γ hI
      refine round m σ L γ hI b (.inLoop c :: k) cs hk fun e σ' L' γ' q => ?_
      cases e with
      | normal =>
        obtain ⟨m', Lc, hlt, hsub, hI'⟩ := q
        exact At.idle (fun _ => rfl) (fun _ _ _ => stepG_inLoop) fun a w ha hw => ih m' hlt σ' Lc γ' hI' a w ha (hw.sublist hsub)
      | exit id => exact (hc _ _ _ _ q).push rfl (by simp)
      | ret => exact (hc _ _ _ _ q).push (x := .inLoop c) rfl (by simp)
      | goto l => exact hc _ _ _ _ q
      | panic ch => exact hc _ _ _ _ q
      | outgrown => exact hc _ _ _ _ q
  exact At.idle (fun _ => rfl) (fun _ _ _ => stepG_loop) fun a w ha hw => key m σ Lc γ h0 a w ha (hw.sublist hs)

theorem SC_loop {c : Code} [hΓ : Subsingleton W.Γ] (I : Nat → St → List Ent → Prop) (m : Nat) (Lc : List Ent) (hs : Lc.Sublist L) (h0 : I m σ Lc)
    (round : ∀ m σ L, I m σ L → SC P n W c (seqQ (fun σ' L' _ => ∃ m' Lc, m' < m ∧ Lc.Sublist L' ∧ I m' σ' Lc) Q) σ L γ) : SC P n W (.loop c) Q σ L γ :=
  SC_loopG (fun m σ L _ => I m σ L) m Lc hs h0 fun m σ L γ' hI => by
    rw [hΓ.elim γ' γ]
    exact round m σ L hI

/-- At one point of what has been agreed on. -/
def Bs.fix (W : Bs P) (γ : W.Γ) : Bs P := { w0 := W.w0, Γ := Unit, main := W.main, B := fun O _ => W.B O γ, step := fun O _ g w => W.step O γ g w }
instance (W : Bs P) (γ : W.Γ) : Subsingleton (W.fix γ).Γ := inferInstanceAs (Subsingleton Unit)
end rules

section
variable (P : Program) (n : Nat) (W : Bs P)
def St0 (args : Array Value) : St := fun i => args.toList.getD i undef

/-- What a function's end must show. -/
def bodyQ (fn : Func) (R : Value → List Ent → Prop) : Exit → St → List Ent → W.Γ → Prop
  | .normal, σ, L, _ | .ret, σ, L, _ => ∀ (a : Act) (w : WO), Rep fn.ntmps σ a → Mem W w L → ∃ v, (results fn a.tmps).run P w = .ok v w ∧ (results fn a.tmps).events P w #[] = #[] ∧ ∃ L', Mem W w L' ∧ R v L'
  | _, _, _, _ => False

/-- A contract: entered with these arguments, where these pieces lie, the function comes back. -/
def CallS (f : FuncId) (args : Array Value) (L : List Ent) (R : Value → List Ent → Prop) : Prop :=
  ∃ fn c, P.funcs[f]? = some fn ∧ fn.body = some c ∧ (fn.name == "runtime.NumGoroutine") = false ∧ args.size ≤ fn.ntmps ∧ ∀ γ : W.Γ, SC P fn.ntmps (W.fix γ) c (bodyQ P (W.fix γ) fn R) (St0 args) L ()
end

section
variable {P : Program} {n : Nat} {W : Bs P} {σ : St} {L : List Ent}
theorem CallS_enter {f : FuncId} {fn : Func} {c : Code} {args : Array Value} {R : Value → List Ent → Prop} (hf : P.funcs[f]? = some fn) (hb : fn.body = some c)
    (hn : args.size ≤ fn.ntmps) (h : ∀ γ : W.Γ, SC P fn.ntmps (W.fix γ) c (bodyQ P (W.fix γ) fn R) (St0 args) L ()) (hnm : (fn.name == "runtime.NumGoroutine") = false := by kernel_rfl) : CallS P W f args L R :=
  ⟨fn, c, hf, hb, hnm, hn, h⟩

theorem rep_enter (fn : Func) (args : Array Value) (hn : args.size ≤ fn.ntmps) : Rep fn.ntmps (St0 args) { tmps := args ++ Array.replicate (fn.ntmps - args.size) undef, defers := [] } := by
  refine ⟨rfl, by simp; omega, fun i => ?_⟩
  obtain ⟨l⟩ := args
  simp only [St0, Array.getD_eq_getD_getElem?, List.getD_eq_getElem?_getD, Array.getElem?_append, Array.getElem?_replicate]
  simp only [List.size_toArray, List.getElem?_toArray]
  by_cases hi : i < l.length
  · simp [hi]
  · rw [if_neg hi, List.getElem?_eq_none (by omega)]
    split <;> rfl

theorem CallS.mono {f : FuncId} {args : Array Value} {R R' : Value → List Ent → Prop} (h : CallS P W f args L R) (hr : ∀ v L', R v L' → R' v L') : CallS P W f args L R' := by
  obtain ⟨fn, c, h1, h2, h3, h4, h5⟩ := h
  refine ⟨fn, c, h1, h2, h3, h4, fun γ => (h5 γ).mono fun e σ L γ' q => ?_⟩
  cases e with
  | normal => exact fun a w ha hw => let ⟨v, x, y, L', z, r⟩ := q a w ha hw; ⟨v, x, y, L', z, hr _ _ r⟩
  | ret => exact fun a w ha hw => let ⟨v, x, y, L', z, r⟩ := q a w ha hw; ⟨v, x, y, L', z, hr _ _ r⟩
  | _ => exact q
theorem CallS.weaken {f : FuncId} {args : Array Value} {R : Value → List Ent → Prop} {L' : List Ent} (hL : ∀ w, Mem W w L → Mem W w L') (h : CallS P W f args L' R) : CallS P W f args L R := by
  obtain ⟨fn, c, h1, h2, h3, h4, h5⟩ := h
  exact ⟨fn, c, h1, h2, h3, h4, fun γ => (h5 γ).weaken hL⟩
end

/-! ### Operations -/
section
variable {P : Program} (W : Bs P)
/-- What an operation does, whatever frame it stands in. -/
def XL (p : Sem Next) (K : Value → List Ent → W.Γ → Prop) (L : List Ent) (γ : W.Γ) : Prop :=
  ∀ (b : Frame) (k : List Item) (cs : List Frame) (ops : Array Oper) (i : Nat) (rest : List Nat) (o : Oper) (a : Act), ops[i]? = some o → Region.wanted o (yielded ops a.tmps) = true → execOp a.eval o = p → b.kind ≠ .early →
    (∀ v L' γ', K v L' γ' → ∀ w : WO, Mem W w L' → W.B w.O γ' (G (b.at (a.put o.dst v) (.inRegion ops rest :: k)) cs) w) →
    ∀ w : WO, Mem W w L → W.B w.O γ (G (b.at a (.inRegion ops (i :: rest) :: k)) cs) w
variable {W}
theorem XL.mono {p : Sem Next} {K K' : Value → List Ent → W.Γ → Prop} {L : List Ent} {γ : W.Γ} (h : XL W p K L γ) (hK : ∀ v L γ, K v L γ → K' v L γ) : XL W p K' L γ :=
  fun b k cs ops i rest o a ho hw hp hk hn => h b k cs ops i rest o a ho hw hp hk fun v L' γ' q => hn v L' γ' (hK _ _ _ q)

/-- It yields a value, or nothing. -/
theorem XL_value {p : Sem Next} {K : Value → List Ent → W.Γ → Prop} {L : List Ent} {γ : W.Γ}
    (h : ∀ w : WO, Mem W w L → ∃ v w' L', (p.run P w = .ok (.value v) w' ∨ (p.run P w = .ok .skip w' ∧ v = undef)) ∧ Kept W.w0.R w.O w w' (p.events P w #[]) ∧ Mem W (w.to w') L' ∧ K v L' γ) : XL W p K L γ := by
  intro b k cs ops i rest o a ho hw hp hk hn w hm
  refine W.step _ _ _ _ rfl fun w₁ _ r => ?_
  obtain ⟨v, w', L', hr, hkp, hm', hK⟩ := h { toWorld := w₁, O := w.O, R := w.R } (hm.rl r)
  have hkp' : Kept W.w0.R w.O w₁ w' (listed P b.fn a o w₁) := ⟨hkp.os, hkp.tape, hkp.output, hkp.size, hkp.block, fun e he => hkp.evs e (by have := mem_listed he; rwa [hp] at this)⟩
  refine ⟨G (b.at (a.put o.dst v) (.inRegion ops rest :: k)) cs, w', listed P b.fn a o w₁, ?_, hkp', hn v L' γ hK _ hm'⟩
  rcases hr with hr | ⟨hr, rfl⟩
  · exact stepG_value ho hw hk (by rw [hp]; exact hr)
  · exact stepG_none ho hw hk (by rw [hp]; exact hr)

/-- It calls. -/
theorem XL_call {p : Sem Next} {K : Value → List Ent → W.Γ → Prop} {L : List Ent} {γ : W.Γ} {f : FuncId} {args : Array Value}
    (hr : ∀ w, p.run P w = .ok (.enter f args) w) (he : ∀ w, p.events P w #[] = #[]) (hc : CallS P W f args L (fun v L' => K v L' γ)) : XL W p K L γ := by
  intro b k cs ops i rest o a ho hw hp hk hn w hm
  obtain ⟨fn, c, hf, hb, hnm, hna, hbody⟩ := hc
  refine W.step _ _ _ _ rfl fun w₁ _ r => ?_
  have hev : listed P b.fn a o w₁ = #[] := by unfold listed; rw [hp, he, seen_none]
  refine ⟨_, w₁, _, stepG_enter ho hw hk (by rw [hp]; exact hr w₁), by rw [hev]; exact Kept.idle _ _ _, ?_⟩
  rw [enter_at args hf hb, WO.same { toWorld := w₁, O := w.O, R := w.R }]
  have hfin : ∀ v, (b.at a (.inRegion ops (i :: rest) :: k)).finish v = b.at (a.put o.dst v) (.inRegion ops rest :: k) := fun v => by rw [Frame.finish_at, ho]; rfl
  have hleave : ∀ (todo : List Item) (σ' : St) (L' : List Ent), (∀ (a' : Act) (w' : WO), Rep fn.ntmps σ' a' → Mem W.w0 w' L' → ∃ v, (results fn a'.tmps).run P w' = .ok v w' ∧ (results fn a'.tmps).events P w' #[] = #[] ∧ ∃ L'', Mem W.w0 w' L'' ∧ K v L'' γ) →
      At fn.ntmps (W.fix γ) () (fun a' => G { (base f).at a' todo with mode := .returning } (b.at a (.inRegion ops (i :: rest) :: k) :: cs)) σ' L' := by
    intro todo σ' L' q
    refine At.go (fun _ => rfl) fun a' w' ha' hw' => ?_
    obtain ⟨v, h1, h2, L'', h3, h4⟩ := q a' w' ha' hw'
    refine ⟨_, w', _, stepG_leave (b := base f) rfl ha'.defers hf h1 h2, Kept.idle _ _ _, ?_⟩
    rw [hfin, show (w'.to w'.toWorld).O = w'.O from WO.same w']
    exact hn v L'' γ h4 w' h3
  refine hbody γ (base f) [] _ (by simp [base]) (fun e σ' L' γ' q => ?_) _ { toWorld := w₁, O := w.O, R := w.R } (rep_enter fn args hna) (hm.rl r)
  cases e with
  | normal => exact At.idle (fun _ => rfl) (fun _ _ _ => stepG_end) (hleave [] σ' L' q)
  | ret => exact fun todo => hleave todo σ' L' q
  | exit id => exact q.elim
  | goto l => exact q.elim
  | panic ch => exact q.elim
  | outgrown => exact q.elim
end

section
variable {P : Program} (W : Bs P)
/-- One operation, in the text's order: its kind is known. -/
def XO (o : Oper) (ρ : Operand → Value) (K : Value → List Ent → W.Γ → Prop) (L : List Ent) (γ : W.Γ) : Prop :=
  ∀ (b : Frame) (k : List Item) (cs : List Frame) (ops : Array Oper) (i : Nat) (rest : List Nat) (a : Act), ops[i]? = some o → Region.wanted o (yielded ops a.tmps) = true → a.eval = ρ → b.kind ≠ .early →
    (∀ v L' γ', K v L' γ' → ∀ w : WO, Mem W w L' → W.B w.O γ' (G (b.at (a.put o.dst v) (.inRegion ops rest :: k)) cs) w) →
    ∀ w : WO, Mem W w L → W.B w.O γ (G (b.at a (.inRegion ops (i :: rest) :: k)) cs) w
variable {W}
theorem XL.o {o : Oper} {ρ : Operand → Value} {K : Value → List Ent → W.Γ → Prop} {L : List Ent} {γ : W.Γ} (h : XL W (execOp ρ o) K L γ) : XO W o ρ K L γ :=
  fun b k cs ops i rest a ho hw he hk hn w hm => h b k cs ops i rest o a ho hw (by rw [he]) hk hn w hm
end

section
variable (P : Program) (n : Nat) (W : Bs P)
/-- In the text's order. -/
def SLp (ops : Array Oper) (Q : Exit → St → List Ent → W.Γ → Prop) : List Oper → St → List Ent → W.Γ → Prop
  | [], σ, L, γ => Q .normal σ L γ
  | o :: r, σ, L, γ => dstOk n o.dst = true ∧ ((wantedσ ops σ o = true ∧ XO W o (ev σ) (fun v L' γ' => SLp ops Q r (updO σ o.dst v) L' γ') L γ) ∨
      (wantedσ ops σ o = false ∧ SLp ops Q r (updO σ o.dst undef) L γ))
end

section
variable {P : Program} {n : Nat} {W : Bs P} {Q : Exit → St → List Ent → W.Γ → Prop}
theorem SLp_at {ops : Array Oper} {b : Frame} {k : List Item} {cs : List Frame} (hk : b.kind ≠ .early) (hc : ∀ e σ' L' γ', Q e σ' L' γ' → Aft n W b k cs e σ' L' γ') :
    ∀ (l : List Oper) (idx : List Nat), idx.map (ops[·]?) = l.map some → ∀ (σ : St) (L : List Ent) (γ : W.Γ), SLp P n W ops Q l σ L γ → At n W γ (fun a => G (b.at a (.inRegion ops idx :: k)) cs) σ L
  | [], idx, hi, σ, L, γ, h => by
    have : idx = [] := by simpa using hi
    subst this
    exact At.idle (fun _ => rfl) (fun _ _ _ => stepG_region_end) (hc _ _ _ _ h)
  | o :: r, [], hi, _, _, _, _ => by simp at hi
  | o :: r, i :: rest, hi, σ, L, γ, h => by
    simp only [List.map_cons, List.cons.injEq] at hi
    obtain ⟨ho, hrest⟩ := hi
    obtain ⟨hd, h | h⟩ := h
    · intro a w ha hw
      exact h.2 b k cs ops i rest a ho (by rw [ha.wanted]; exact h.1) ha.eval hk (fun v L' γ' q w' hw' => SLp_at hk hc r rest hrest _ L' γ' q _ w' (ha.putO hd v) hw') w hw
    · refine At.idle (F' := fun a => G (b.at (a.put o.dst undef) (.inRegion ops rest :: k)) cs) (fun _ => rfl) (fun a _ ha => stepG_unwanted ho (by rw [ha.wanted]; exact h.1)) ?_
      exact fun a w ha hw => SLp_at hk hc r rest hrest _ L γ h.2 _ w (ha.putO hd undef) hw
end

section
variable (P : Program) (n : Nat) (W : Bs P)
/-- Each operation yields one value and leaves the pieces as they are. -/
def SLq (ops : Array Oper) (Q : Exit → St → List Ent → W.Γ → Prop) : List Oper → St → List Ent → W.Γ → Prop
  | [], σ, L, γ => Q .normal σ L γ
  | o :: r, σ, L, γ => ∃ v, dstOk n o.dst = true ∧ ((wantedσ ops σ o = true ∧ ∀ K : Value → List Ent → W.Γ → Prop, K v L γ → XL W (execOp (ev σ) o) K L γ) ∨ (wantedσ ops σ o = false ∧ v = undef)) ∧ SLq ops Q r (updO σ o.dst v) L γ
end

section
variable {P : Program} {n : Nat} {W : Bs P} {Q : Exit → St → List Ent → W.Γ → Prop} {σ : St} {L : List Ent} {γ : W.Γ}
theorem range_map {α : Type} (ops : Array α) : (List.range ops.size).map (ops[·]?) = ops.toList.map some := by
  apply List.ext_getElem?
  intro i
  simp only [List.getElem?_map, Array.getElem?_toList]
  by_cases h : i < ops.size
  · simp [h]
  · simp [h]

theorem SC_regionP {id : Nat} {ops : Array Oper} (h : SLp P n W ops Q ops.toList σ L γ) : SC P n W (.region id ops false) Q σ L γ := fun _ _ _ hk hc =>
  At.idle (fun _ => rfl) (fun _ _ _ => stepG_region) (SLp_at hk hc _ _ (range_map ops) _ _ _ h)

theorem SLq_walk {ops : Array Oper} : ∀ (l : List Oper) (σ : St) (a : Act), Rep n σ a → SLq P n W ops Q l σ L γ →
    walkQ ops (fun p v => ∀ K : Value → List Ent → W.Γ → Prop, K v L γ → XL W p K L γ) (fun a => ∃ σ, Rep n σ a ∧ Q .normal σ L γ) l a
  | [], σ, a, ha, h => ⟨σ, ha, h⟩
  | o :: r, σ, a, ha, ⟨v, hd, hv, hr⟩ => ⟨v, by
      unfold yieldsQ
      rw [ha.wanted, ha.eval]; exact hv, SLq_walk r _ _ (ha.putO hd v) hr⟩

theorem SC_drawQ {id : Nat} {ops : Array Oper} (hm : P.follows .mixedOrders = true) (hB : Region.lexB .any ops = true) (h : SLq P n W ops Q ops.toList σ L γ) :
    SC P n W (.region id ops true) Q σ L γ := fun b k cs hk hc => by
  refine At.go (fun _ => rfl) fun a w ha hw => ⟨_, _, _, stepG_region_draw, ⟨rfl, rfl, rfl, Nat.le_refl _, fun _ _ _ => rfl, fun e he => by simp at he⟩, ?_⟩
  simp only [Region.lexB, Bool.and_eq_true] at hB
  have h1 := anyQ_lex hB.1 ops.toList 0 (Array.replicate ops.size false) a (by simp) (by simpa using hB.2) (SLq_walk _ _ _ ha h)
  simp only [Region.schedule, hm, Bool.true_or, if_true]
  have h2 := anyQ_sound (fun idx a => ∀ w : WO, Mem W w L → W.B w.O γ (G (b.at a (.inRegion ops idx :: k)) cs) w)
    (fun a ⟨σ', ha', hq⟩ w hw => At.idle (F := fun a => G (b.at a (.inRegion ops [] :: k)) cs) (fun _ => rfl) (fun _ _ _ => stepG_region_end) (hc _ _ _ _ hq) a w ha' hw)
    (fun i rest o v a ho hy hn w hw => by
      rcases hy with ⟨hwt, hY⟩ | ⟨hwt, rfl⟩
      · exact hY (fun v' L' γ' => v' = v ∧ L' = L ∧ γ' = γ) ⟨rfl, rfl, rfl⟩ b k cs ops i rest o a ho hwt rfl hk (by rintro _ _ _ ⟨rfl, rfl, rfl⟩ w hw; exact hn w hw) w hw
      · refine W.step _ _ _ _ rfl fun w₁ _ r => ⟨_, w₁, _, stepG_unwanted ho hwt, Kept.idle _ _ _, ?_⟩
        rw [WO.same { toWorld := w₁, O := w.O, R := w.R }]
        exact hn _ (hw.rl r))
    ops.toList.length (w.tape w.drawn (.order b.fn id)) _ a h1
  have hw' : Mem W.w0 (w.to { w.toWorld with drawn := w.drawn + 1 }) L := ⟨hw.os, hw.tape, hw.output, hw.size, fun x hx => ⟨(hw.ok x hx).lt, x.loc w _ (fun _ _ => rfl) (hw.ok x hx).holds⟩, hw.sep, fun x hx k hk hN => .inl (hw.own x hx k hk hN), hw.bnd, hw.old⟩
  have h3 := h2 _ hw'
  simp only [Array.length_toList] at h3
  exact h3
end

/-- A value in every world in which the pieces lie, the world left as it is, nothing but what is allowed listed. -/
def ValOp (P : Program) (W : Bs P) (L : List Ent) (p : Sem Next) (v : Value) : Prop :=
  ∀ w : WO, Mem W w L → p.run P w = .ok (.value v) w ∧ Kept W.w0.R w.O w w (p.events P w #[])

section
variable {P : Program} {n : Nat} {W : Bs P} {Q : Exit → St → List Ent → W.Γ → Prop} {σ : St} {L : List Ent} {γ : W.Γ}
theorem ValOp.sub {L' : List Ent} {p : Sem Next} {v : Value} (h : ValOp P W L p v) (hs : L.Sublist L') : ValOp P W L' p v := fun w hw => h w (hw.sublist hs)
theorem Mem.same {W : WR} {w : WO} {L : List Ent} (h : Mem W w L) : Mem W (w.to w.toWorld) L := ⟨h.os, h.tape, h.output, h.size, h.ok, h.sep, fun x hx k hk hN => .inl (h.own x hx k hk hN), h.bnd, h.old⟩
theorem XL_val {p : Sem Next} {v : Value} {K : Value → List Ent → W.Γ → Prop} (h : ValOp P W L p v) (hK : K v L γ) : XL W p K L γ :=
  XL_value fun w hw => ⟨v, w, L, .inl (h w hw).1, (h w hw).2, hw.same, hK⟩
end

/-! ### A walk by a plan -/
def SPl (P : Program) (n : Nat) (W : Bs P) (Ls : List Ent) (ops : Array Oper) (Q : Exit → St → List Ent → W.Γ → Prop) : Plan → St → List Ent → W.Γ → Prop
  | .fin, σ, L, γ => Q .normal σ L γ
  | .op i r, σ, L, γ => ∃ o, ops[i]? = some o ∧ dstOk n o.dst = true ∧
    (kindOf o.op ≤ 1 → ∃ v, ((wantedσ ops σ o = true ∧ (if kindOf o.op = 0 then ValOp P W [] (execOp (ev σ) o) v else ValOp P W L (execOp (ev σ) o) v)) ∨ (wantedσ ops σ o = false ∧ v = undef)) ∧
      SPl P n W Ls ops Q r (updO σ o.dst v) L γ) ∧
    (2 ≤ kindOf o.op →
      (wantedσ ops σ o = true → XL W (execOp (ev σ) o) (fun v L' γ' => (kindOf o.op = 2 → L.Sublist L') ∧ (Ls.Sublist L → Ls.Sublist L') ∧ SPl P n W Ls ops Q r (updO σ o.dst v) L' γ') L γ) ∧
      (wantedσ ops σ o = false → SPl P n W Ls ops Q r (updO σ o.dst undef) L γ))
  | .opS i r, σ, L, γ => ∃ o, ops[i]? = some o ∧ ∃ v, dstOk n o.dst = true ∧ ((wantedσ ops σ o = true ∧ ValOp P W Ls (execOp (ev σ) o) v) ∨ (wantedσ ops σ o = false ∧ v = undef)) ∧
      SPl P n W Ls ops Q r (updO σ o.dst v) L γ
  | .alt p q, σ, L, γ => SPl P n W Ls ops Q p σ L γ ∧ SPl P n W Ls ops Q q σ L γ

section
variable {P : Program} {n : Nat} {W : Bs P} {Q : Exit → St → List Ent → W.Γ → Prop}
def Xs (W : Bs P) : Sem Next → (Value → List Ent × W.Γ → Prop) → List Ent × W.Γ → Prop := fun p K s => XL W p (fun v L γ => K v (L, γ)) s.1 s.2
theorem monoXs : MonoX (Xs W) := fun _ _ _ _ h hx => hx.mono fun v L γ => h v (L, γ)
def Qs (n : Nat) (Q : Exit → St → List Ent → W.Γ → Prop) : Act → List Ent × W.Γ → Prop := fun a s => ∃ σ, Rep n σ a ∧ Q .normal σ s.1 s.2

theorem plan_sound {ops : Array Oper} {Ls : List Ent} (hsel : Region.noSelect ops = true) : ∀ (plan : Plan) (listed : Array Bool) (σ : St) (L : List Ent) (γ : W.Γ) (a : Act),
    SPl P n W Ls ops Q plan σ L γ → Rep n σ a → Ls.Sublist L →
    (planOk ops false plan listed = true → anyS ops (Xs W) (fun s => Ls.Sublist s.1) (fun s => L.Sublist s.1) (Qs n Q) plan.len listed a (L, γ)) ∧
    (planOk ops true plan listed = true → ∀ i ∈ plan.heads, opS ops (Xs W) i (fun a' s' => Ls.Sublist s'.1 ∧ (still ops (listed.setIfInBounds i true) = true → L.Sublist s'.1) ∧ anyS ops (Xs W) (fun s => Ls.Sublist s.1) (fun s => L.Sublist s.1) (Qs n Q) (plan.len - 1) (listed.setIfInBounds i true) a' s') a (L, γ))
  | .fin, listed, σ, L, γ, a, hs, ha, hLs => ⟨fun hp => ⟨by simpa [planOk] using hp, σ, ha, hs⟩, fun _ i hi => by simp [Plan.heads] at hi⟩
  | .alt p q, listed, σ, L, γ, a, hs, ha, hLs => by
    have hh : planOk ops true (.alt p q) listed = true → ∀ i ∈ (Plan.alt p q).heads, opS ops (Xs W) i (fun a' s' => Ls.Sublist s'.1 ∧ (still ops (listed.setIfInBounds i true) = true → L.Sublist s'.1) ∧ anyS ops (Xs W) (fun s => Ls.Sublist s.1) (fun s => L.Sublist s.1) (Qs n Q) ((Plan.alt p q).len - 1) (listed.setIfInBounds i true) a' s') a (L, γ) := by
      intro hp i hi
      simp only [planOk, Bool.true_or, Bool.true_and, Bool.and_eq_true, beq_iff_eq] at hp
      obtain ⟨⟨hl, hp1⟩, hp2⟩ := hp
      rcases List.mem_append.1 hi with hi | hi
      · exact (plan_sound hsel p listed σ L γ a hs.1 ha hLs).2 hp1 i hi
      · have := (plan_sound hsel q listed σ L γ a hs.2 ha hLs).2 hp2 i hi
        rw [← hl] at this
        exact this
    refine ⟨fun hp => ?_, hh⟩
    simp only [planOk, Bool.false_or, Bool.and_eq_true, beq_iff_eq] at hp
    obtain ⟨⟨⟨⟨hne, hall⟩, hl⟩, hp1⟩, hp2⟩ := hp
    have hp' : planOk ops true (.alt p q) listed = true := by simp [planOk, hl, hp1, hp2]
    have hne' : Region.ready .any ops listed ≠ [] := by intro h; rw [h] at hne; cases hne
    cases hlen : (Plan.alt p q).len with
    | zero =>
      exfalso
      obtain ⟨i, hi⟩ := List.exists_mem_of_ne_nil _ hne'
      rw [List.all_eq_true] at hall
      have hih := hall i hi
      have key : ∀ r : Plan, i ∈ r.heads → planOk ops true r listed = true → 0 < r.len := by
        intro r
        induction r with
        | fin => intro h; simp [Plan.heads] at h
        | op j r _ => intro _ _; simp [Plan.len]
        | opS j r _ => intro h; simp [Plan.heads] at h
        | alt p q ihp ihq =>
          intro h hk
          simp only [planOk, Bool.true_or, Bool.true_and, Bool.and_eq_true, beq_iff_eq] at hk
          rcases List.mem_append.1 h with h | h
          · exact ihp h hk.1.2
          · have := ihq h hk.2; simp only [Plan.len]; omega
      have := key (.alt p q) (by simpa [Plan.heads] using hih) hp'
      omega
    | succ f =>
      refine ⟨fun h => absurd h hne', fun i hi => ?_⟩
      rw [List.all_eq_true] at hall
      have := hh hp' i (by simpa [Plan.heads] using hall i hi)
      rw [hlen] at this
      exact this
  | .opS i r, listed, σ, L, γ, a, hs, ha, hLs => by
    obtain ⟨o, ho, v, hd, hv, hrest⟩ := hs
    refine ⟨fun hp => ?_, fun _ i hi => by simp [Plan.heads] at hi⟩
    simp only [planOk, Bool.not_false, Bool.true_and, Bool.and_eq_true] at hp
    obtain ⟨⟨⟨hk, hr⟩, hf⟩, hp2⟩ := hp
    have hwant := ha.wanted ops o
    have hy : YieldsE ops (Xs W) (fun s => Ls.Sublist s.1) o v a := by
      rcases hv with ⟨h1, h2⟩ | ⟨h1, h2⟩
      · exact .inl ⟨by rw [hwant]; exact h1, fun s hs K hK => by rw [ha.eval]; exact XL_val (h2.sub hs) hK⟩
      · exact .inr ⟨by rw [hwant]; exact h1, h2⟩
    have hk3 : kindAt ops i ≠ 3 := by intro h; rw [h] at hk; cases hk
    exact takeE monoXs ho (Region.noSelect_spec hsel) hk3 (fun _ => True) (fun _ _ _ _ _ _ => ⟨trivial, fun _ h _ => h⟩) r.len listed a (L, γ) trivial hLs hLs (fun _ => List.Sublist.refl _) (Region.free_spec ho hf) (by simpa using hr) hy
      ((plan_sound hsel r _ _ L γ _ hrest (ha.putO hd v) hLs).1 hp2)
  | .op i r, listed, σ, L, γ, a, hs, ha, hLs => by
    obtain ⟨o, ho, hd, hs⟩ := hs
    have hka : kindAt ops i = kindOf o.op := by simp [kindAt, ho]
    have hwant := ha.wanted ops o
    have state : 2 ≤ kindOf o.op → planOk ops false r (listed.setIfInBounds i true) = true →
        opS ops (Xs W) i (fun a' s' => Ls.Sublist s'.1 ∧ (still ops (listed.setIfInBounds i true) = true → L.Sublist s'.1) ∧ anyS ops (Xs W) (fun s => Ls.Sublist s.1) (fun s => L.Sublist s.1) (Qs n Q) r.len (listed.setIfInBounds i true) a' s') a (L, γ) := by
      intro hk2 hp2
      unfold opS
      rw [ho]
      simp only
      have step : ∀ σ' L' γ' a', Rep n σ' a' → (kindOf o.op = 2 → L.Sublist L') → (Ls.Sublist L → Ls.Sublist L') → SPl P n W Ls ops Q r σ' L' γ' →
          Ls.Sublist L' ∧ (still ops (listed.setIfInBounds i true) = true → L.Sublist L') ∧ anyS ops (Xs W) (fun s => Ls.Sublist s.1) (fun s => L.Sublist s.1) (Qs n Q) r.len (listed.setIfInBounds i true) a' (L', γ') := by
        intro σ' L' γ' a' h1 h3 h5 h4
        have ih := (plan_sound hsel r (listed.setIfInBounds i true) _ L' γ' a' h4 h1 (h5 hLs)).1 hp2
        refine ⟨h5 hLs, ?_⟩
        by_cases hk3 : kindOf o.op = 2
        · exact ⟨fun _ => h3 hk3, anyS_mono monoXs (fun s hs => (h3 hk3).trans hs) _ _ _ _ ih⟩
        · have hle : ∀ x : Op, kindOf x ≤ 3 := by intro x; unfold kindOf; split <;> omega
          have hk33 : kindAt ops i = 3 := by rw [hka]; have := hle o.op; omega
          have hoff : still ops (listed.setIfInBounds i true) = false := by
            rw [← Bool.not_eq_true]
            intro hc
            unfold still at hc
            rw [List.all_eq_true] at hc
            have := hc i (List.mem_range.2 (Array.getElem?_eq_some_iff.1 ho).1)
            rw [hk33] at this
            simp at this
          exact ⟨fun hc => (by rw [hoff] at hc; cases hc), anyS_off monoXs _ _ _ _ hoff ih⟩
      obtain ⟨hy, hn⟩ := hs.2 hk2
      rw [hwant]
      by_cases hg : wantedσ ops σ o = true
      · rw [if_pos hg]
        have := hy hg
        unfold Xs
        rw [ha.eval]
        exact this.mono fun v L' γ' ⟨h3, h5, h4⟩ => step _ L' γ' _ (ha.putO hd v) h3 h5 h4
      · rw [if_neg hg]
        exact step _ L γ _ (ha.putO hd undef) (fun _ => List.Sublist.refl _) id (hn (by simpa using hg))
    constructor
    · intro hp
      simp only [planOk, Bool.not_false, Bool.true_and, Bool.false_or, Bool.and_eq_true] at hp
      obtain ⟨hp1, hp2⟩ := hp
      rw [hka] at hp1
      have value : ∀ (E : List Ent × W.Γ → Prop) (Inv : Array Bool → Prop), kindOf o.op ≤ 1 → i ∈ Region.ready .any ops listed → Region.free .any ops listed i = true → E (L, γ) → Inv listed →
          (∀ listed j, Inv listed → i ∈ Region.ready .any ops listed → j ∈ Region.ready .any ops listed → j ≠ i → Inv (listed.setIfInBounds j true) ∧
            ∀ s' : List Ent × W.Γ, Ls.Sublist s'.1 → (still ops (listed.setIfInBounds j true) = true → L.Sublist s'.1) → E s') →
          (∀ v, (if kindOf o.op = 0 then ValOp P W [] (execOp (ev σ) o) v else ValOp P W L (execOp (ev σ) o) v) → ∀ s, E s → ValOp P W s.1 (execOp (ev σ) o) v) →
          anyS ops (Xs W) (fun s => Ls.Sublist s.1) (fun s => L.Sublist s.1) (Qs n Q) (r.len + 1) listed a (L, γ) := by
        intro E Inv hk hr hf hE hI hInv hval
        obtain ⟨v, hv, hrest⟩ := hs.1 hk
        have hy : YieldsE ops (Xs W) E o v a := by
          rcases hv with ⟨h1, h2⟩ | ⟨h1, h2⟩
          · exact .inl ⟨by rw [hwant]; exact h1, fun s hs K hK => by rw [ha.eval]; exact XL_val (hval v h2 s hs) hK⟩
          · exact .inr ⟨by rw [hwant]; exact h1, h2⟩
        exact takeE monoXs ho (Region.noSelect_spec hsel) (by rw [hka]; omega) Inv hInv r.len listed a (L, γ) hI hE hLs (fun _ => List.Sublist.refl _) (Region.free_spec ho hf) hr hy
          ((plan_sound hsel r _ _ L γ _ hrest (ha.putO hd v) hLs).1 hp2)
      show anyS ops (Xs W) (fun s => Ls.Sublist s.1) (fun s => L.Sublist s.1) (Qs n Q) (r.len + 1) listed a (L, γ)
      by_cases hk0 : kindOf o.op = 0
      · rw [hk0] at hp1
        simp only [Bool.and_eq_true] at hp1
        exact value (fun _ => True) (fun _ => True) (by omega) (by simpa using hp1.1) hp1.2 trivial trivial (fun _ _ _ _ _ _ => ⟨trivial, fun _ _ _ => trivial⟩)
          (fun v h s _ => by rw [if_pos hk0] at h; exact h.sub (List.nil_sublist _))
      · by_cases hk1 : kindOf o.op = 1
        · rw [hk1] at hp1
          simp only [Bool.and_eq_true] at hp1
          obtain ⟨⟨⟨⟨h1, h2⟩, h3⟩, h4⟩, h5⟩ := hp1
          refine value (fun s => L.Sublist s.1) (fun listed => still ops listed = true ∧ waited ops listed i = true ∧ closedB ops listed = true) (by omega) (by simpa using h1) h2 (List.Sublist.refl _) ⟨h3, h4, h5⟩ ?_
            (fun v h s hs => by rw [if_neg hk0] at h; exact h.sub hs)
          rintro listed j ⟨hst, hwt, hcl⟩ hir hjr hji
          have hj3 : kindAt ops j ≠ 3 := by
            intro hk
            obtain ⟨hjun, oj, hoj, hall⟩ := mem_ready.1 hjr
            unfold waited at hwt
            rw [List.all_eq_true] at hwt
            have := hwt j (List.mem_range.2 (Array.getElem?_eq_some_iff.1 hoj).1)
            rw [hk, hjun] at this
            simp only [bne_self_eq_false, Bool.false_or] at this
            have h1 := waits_listed hcl 8 j oj hoj hall this
            have h0 := (mem_ready.1 hir).1
            rcases Nat.lt_or_ge i listed.size with h' | h'
            · simp [h'] at h0 h1; rw [h0] at h1; cases h1
            · simp [Array.getElem?_eq_none h'] at h1
          have hst' := still_set hj3 hst
          refine ⟨⟨hst', ?_, closed_set hcl hjr⟩, fun s' _ h => h hst'⟩
          unfold waited at hwt ⊢
          rw [List.all_eq_true] at hwt ⊢
          intro k hk
          have := hwt k hk
          by_cases hjk : j = k
          · subst hjk; simp
          · rw [getD_set_ne true hjk]; exact this
        · have hk2 : 2 ≤ kindOf o.op := by omega
          have hready : Region.ready .any ops listed = [i] := by
            revert hp1
            generalize kindOf o.op = kk at hk2
            match kk, hk2 with
            | kk + 2, _ =>
              intro hp1
              simp only at hp1
              split at hp1
              · rename_i j hj
                have hji : j = i := by simpa using hp1
                subst hji; exact hj
              · cases hp1
          refine ⟨fun h => (by rw [hready] at h; cases h), fun j hj => ?_⟩
          rw [hready] at hj
          have hj : j = i := by simpa using hj
          subst hj
          exact state hk2 hp2
    · intro hp j hj
      have hj : j = i := by simpa [Plan.heads] using hj
      subst hj
      simp only [planOk, Bool.not_true, Bool.false_and, Bool.true_or, Bool.and_eq_true] at hp
      obtain ⟨hp1, hp2⟩ := hp
      rw [hka] at hp1
      have hk2 : 2 ≤ kindOf o.op := by
        match hk : kindOf o.op, hp1 with
        | kk + 2, _ => omega
      exact state hk2 hp2
end

section
variable {P : Program} {n : Nat} {W : Bs P} {Q : Exit → St → List Ent → W.Γ → Prop} {σ : St} {L : List Ent} {γ : W.Γ}
theorem SC_plan {id : Nat} {ops : Array Oper} (Ls : List Ent) (plan : Plan) (hm : P.follows .mixedOrders = true) (hsel : Region.noSelect ops = true) (hp : planOk ops false plan (Array.replicate ops.size false) = true)
    (hlen : plan.len = ops.size) (_hQ : ∀ c σ L γ, ¬ Q (.panic c) σ L γ) (hLs : Ls.Sublist L) (h : SPl P n W Ls ops Q plan σ L γ) : SC P n W (.region id ops true) Q σ L γ := fun b k cs hk hc => by
  refine At.go (fun _ => rfl) fun a w ha hw => ⟨_, _, _, stepG_region_draw, ⟨rfl, rfl, rfl, Nat.le_refl _, fun _ _ _ => rfl, fun e he => by simp at he⟩, ?_⟩
  have h1 := (plan_sound hsel plan _ σ L γ a h ha hLs).1 hp
  rw [hlen] at h1
  simp only [Region.schedule, hm, Bool.true_or, if_true]
  have h2 := anyS_sound monoXs (fun idx a (s : List Ent × W.Γ) => ∀ w : WO, Mem W w s.1 → W.B w.O s.2 (G (b.at a (.inRegion ops idx :: k)) cs) w)
    (fun a s ⟨σ', ha', hq⟩ w hw => At.idle (F := fun a => G (b.at a (.inRegion ops [] :: k)) cs) (fun _ => rfl) (fun _ _ _ => stepG_region_end) (hc _ _ _ _ hq) a w ha' hw)
    (fun i rest a s ho w hw => by
      unfold opS at ho
      split at ho
      · exact ho.elim
      · rename_i o hi
        split at ho
        · rename_i hwt
          exact ho b k cs ops i rest o a hi hwt rfl hk (fun v L' γ' q w hw => q w hw) w hw
        · rename_i hwt
          refine W.step _ _ _ _ rfl fun w₁ _ r => ⟨_, w₁, _, stepG_unwanted hi (by simpa using hwt), Kept.idle _ _ _, ?_⟩
          rw [WO.same { toWorld := w₁, O := w.O, R := w.R }]
          exact ho _ (hw.rl r))
    ops.size (w.tape w.drawn (.order b.fn id)) _ a _ h1
  have hw' : Mem W.w0 (w.to { w.toWorld with drawn := w.drawn + 1 }) L := ⟨hw.os, hw.tape, hw.output, hw.size, fun x hx => ⟨(hw.ok x hx).lt, x.loc w _ (fun _ _ => rfl) (hw.ok x hx).holds⟩, hw.sep, fun x hx k hk hN => .inl (hw.own x hx k hk hN), hw.bnd, hw.old⟩
  exact h2 _ hw'
end

/-! ### Modes -/
section
variable (P : Program) (n : Nat) (W : Bs P)
/-- A walk in an order that takes all values as early as may be. -/
def SSem (Ls : List Ent) (ops : Array Oper) (Q : Exit → St → List Ent → W.Γ → Prop) : List Oper → St → List Ent → W.Γ → Prop
  | [], σ, L, γ => Q .normal σ L γ
  | o :: r, σ, L, γ => dstOk n o.dst = true ∧
    (kindOf o.op ≤ 1 → ∃ v, ((wantedσ ops σ o = true ∧ (if kindOf o.op = 0 then ValOp P W [] (execOp (ev σ) o) v else ValOp P W L (execOp (ev σ) o) v)) ∨ (wantedσ ops σ o = false ∧ v = undef)) ∧
      SSem Ls ops Q r (updO σ o.dst v) L γ) ∧
    (2 ≤ kindOf o.op →
      (wantedσ ops σ o = true → XL W (execOp (ev σ) o) (fun v L' γ' => (kindOf o.op = 2 → L.Sublist L') ∧ (Ls.Sublist L → Ls.Sublist L') ∧ SSem Ls ops Q r (updO σ o.dst v) L' γ') L γ) ∧
      (wantedσ ops σ o = false → SSem Ls ops Q r (updO σ o.dst undef) L γ))

inductive Md where
  | plain
  | quiet
  | sched (Ls : List Ent)
def Md.chg : Md → Bool
  | .quiet => false
  | _ => true
/-- What the region leaves alone stays. -/
def Md.keeps : Md → List Ent → Prop
  | .sched Ls, L => Ls.Sublist L
  | _, _ => True

/-- plain: in the text's order · quiet: a region that draws its order, all of whose operations leave the pieces as they are · sched: one that draws it, in an order with the values first. -/
def SL (q : Md) (ops : Array Oper) (Q : Exit → St → List Ent → W.Γ → Prop) (l : List Oper) (σ : St) (L : List Ent) (γ : W.Γ) : Prop :=
  match q with
  | .plain => SLp P n W ops Q l σ L γ
  | .quiet => SLq P n W ops Q l σ L γ
  | .sched Ls => SSem P n W Ls ops Q l σ L γ
end

section
variable {P : Program} {n : Nat} {W : Bs P} {q : Md} {Q : Exit → St → List Ent → W.Γ → Prop} {σ : St} {L : List Ent} {γ : W.Γ} {ops : Array Oper} {rest : List Oper} {o : Oper}

theorem XL.weaken {p : Sem Next} {K : Value → List Ent → W.Γ → Prop} {L' : List Ent} (hL : ∀ w, Mem W w L → Mem W w L') (h : XL W p K L' γ) : XL W p K L γ :=
  fun b k cs ops i rest o a ho hw hp hk hn w hm => h b k cs ops i rest o a ho hw hp hk hn w (hL w hm)
theorem XO.weaken {o : Oper} {ρ : Operand → Value} {K : Value → List Ent → W.Γ → Prop} {L' : List Ent} (hL : ∀ w, Mem W w L → Mem W w L') (h : XO W o ρ K L' γ) : XO W o ρ K L γ :=
  fun b k cs ops i rest a ho hw hp hk hn w hm => h b k cs ops i rest a ho hw hp hk hn w (hL w hm)
theorem XL.pure {p : Sem Next} {K : Value → List Ent → W.Γ → Prop} {φ : Prop} (hφ : ∀ w, Mem W w L → φ) (h : φ → XL W p K L γ) : XL W p K L γ :=
  fun b k cs ops i rest o a ho hw hp hk hn w hm => h (hφ w hm) b k cs ops i rest o a ho hw hp hk hn w hm

theorem SL_nil (h : Q .normal σ L γ) : SL P n W q ops Q [] σ L γ := by
  cases q <;> exact h
theorem SC_region {id : Nat} {ops : Array Oper} (h : SL P n W .plain ops Q ops.toList σ L γ) : SC P n W (.region id ops false) Q σ L γ := SC_regionP h
theorem SC_draw {id : Nat} {ops : Array Oper} (hm : P.follows .mixedOrders = true) (hB : Region.lexB .any ops = true) (h : SL P n W .quiet ops Q ops.toList σ L γ) :
    SC P n W (.region id ops true) Q σ L γ := SC_drawQ hm hB h

theorem SL_core (hq : q.chg = true) (hk : 2 ≤ kindOf o.op) (hg : wantedσ ops σ o = true) (hd : dstOk n o.dst = true)
    (h : ∀ w : WO, Mem W w L → ∃ v w' L', (execOp (ev σ) o).run P w = .ok (.value v) w' ∧ Kept W.w0.R w.O w w' ((execOp (ev σ) o).events P w #[]) ∧ Mem W (w.to w') L' ∧ (kindOf o.op = 2 → L.Sublist L') ∧ (kindOf o.op = 2 ∨ (q.keeps L → q.keeps L')) ∧ SL P n W q ops Q rest (updO σ o.dst v) L' γ) :
    SL P n W q ops Q (o :: rest) σ L γ := by
  cases q
  · refine ⟨hd, .inl ⟨hg, XL.o (XL_value fun w hw => ?_)⟩⟩
    obtain ⟨v, w', L', hr, hkp, hm, _, _, hs⟩ := h w hw
    exact ⟨v, w', L', .inl hr, hkp, hm, hs⟩
  · cases hq
  · refine ⟨hd, fun h1 => by omega, fun _ => ⟨fun _ => XL_value fun w hw => ?_, fun h1 => by rw [hg] at h1; cases h1⟩⟩
    obtain ⟨v, w', L', hr, hkp, hm, hsub, hkp2, hs⟩ := h w hw
    exact ⟨v, w', L', .inl hr, hkp, hm, hsub, fun h => hkp2.elim (fun h2 => h.trans (hsub h2)) (fun h2 => h2 h), hs⟩

theorem SL_coreS (hq : q.chg = true) (hk : kindOf o.op = 3) (hg : wantedσ ops σ o = true) (hd : o.dst = none)
    (h : ∀ w : WO, Mem W w L → ∃ w' L', (execOp (ev σ) o).run P w = .ok .skip w' ∧ Kept W.w0.R w.O w w' ((execOp (ev σ) o).events P w #[]) ∧ Mem W (w.to w') L' ∧ (q.keeps L → q.keeps L') ∧ SL P n W q ops Q rest σ L' γ) :
    SL P n W q ops Q (o :: rest) σ L γ := by
  have hput : ∀ v, updO σ o.dst v = σ := fun v => by rw [hd]; rfl
  have hd' : dstOk n o.dst = true := by rw [hd]; rfl
  cases q
  · refine ⟨hd', .inl ⟨hg, XL.o (XL_value fun w hw => ?_)⟩⟩
    obtain ⟨w', L', hr, hkp, hm, _, hs⟩ := h w hw
    exact ⟨undef, w', L', .inr ⟨hr, rfl⟩, hkp, hm, by rw [hput]; exact hs⟩
  · cases hq
  · refine ⟨hd', fun h1 => by omega, fun _ => ⟨fun _ => XL_value fun w hw => ?_, fun h1 => by rw [hg] at h1; cases h1⟩⟩
    obtain ⟨w', L', hr, hkp, hm, hkp2, hs⟩ := h w hw
    exact ⟨undef, w', L', .inr ⟨hr, rfl⟩, hkp, hm, fun h2 => by omega, hkp2, by rw [hput]; exact hs⟩

/-- A call of a Go function. -/
theorem kind_call (f : Operand) (as : Array Operand) (ts : Array TypeId) : 2 ≤ kindOf (.call { callee := .value f, args := as, argTypes := ts }) := by
  unfold kindOf; split <;> first | omega | (rename_i h; cases h)
theorem SL_coreC (hq : q.chg = true) (hk : 2 ≤ kindOf o.op) (hg : wantedσ ops σ o = true) (hd : dstOk n o.dst = true) {f : FuncId} {args : Array Value} {R : Value → List Ent → Prop}
    (hr : ∀ w, (execOp (ev σ) o).run P w = .ok (.enter f args) w) (he : ∀ w, (execOp (ev σ) o).events P w #[] = #[]) (hc : CallS P W f args L R)
    (h : ∀ v L', R v L' → (q = .plain ∨ L.Sublist L') ∧ SL P n W q ops Q rest (updO σ o.dst v) L' γ) :
    SL P n W q ops Q (o :: rest) σ L γ := by
  cases q
  · exact ⟨hd, .inl ⟨hg, XL.o (XL_call hr he (hc.mono fun v L' hR => (h v L' hR).2))⟩⟩
  · cases hq
  · refine ⟨hd, fun h1 => by omega, fun _ => ⟨fun _ => XL_call hr he (hc.mono fun v L' hR => ?_), fun h1 => by rw [hg] at h1; cases h1⟩⟩
    have hsub : L.Sublist L' := (h v L' hR).1.resolve_left (by intro h; cases h)
    exact ⟨fun _ => hsub, fun h => h.trans hsub, (h v L' hR).2⟩

/-- Any operation, in the text's order. -/
theorem SL_X (hg : wantedσ ops σ o = true) (hd : dstOk n o.dst = true) (h : XL W (execOp (ev σ) o) (fun v L' γ' => SL P n W .plain ops Q rest (updO σ o.dst v) L' γ') L γ) : SL P n W .plain ops Q (o :: rest) σ L γ := ⟨hd, .inl ⟨hg, h.o⟩⟩
theorem SL_O (hg : wantedσ ops σ o = true) (hd : dstOk n o.dst = true) (h : XO W o (ev σ) (fun v L' γ' => SL P n W .plain ops Q rest (updO σ o.dst v) L' γ') L γ) : SL P n W .plain ops Q (o :: rest) σ L γ := ⟨hd, .inl ⟨hg, h⟩⟩

theorem SL_skip (hg : wantedσ ops σ o = false) (hd : dstOk n o.dst = true) (h : SL P n W q ops Q rest (updO σ o.dst undef) L γ) : SL P n W q ops Q (o :: rest) σ L γ := by
  cases q
  · exact ⟨hd, .inr ⟨hg, h⟩⟩
  · exact ⟨undef, hd, .inr ⟨hg, rfl⟩, h⟩
  · exact ⟨hd, fun _ => ⟨undef, .inr ⟨hg, rfl⟩, h⟩, fun _ => ⟨fun h1 => (by rw [hg] at h1; cases h1), fun _ => h⟩⟩

theorem ValOp.of {p : Sem Next} {v : Value} (h : ∀ w, p.run P w = .ok (.value v) w ∧ p.events P w #[] = #[]) : ValOp P W L p v := fun w _ => ⟨(h w).1, by rw [(h w).2]; exact Kept.idle _ _ _⟩

/-- A value that hangs on no world. -/
theorem SL_valW (v : Value) (hk : kindOf o.op ≤ 1) (hg : wantedσ ops σ o = true) (hd : dstOk n o.dst = true) (hv : ∀ w, (execOp (ev σ) o).run P w = .ok (.value v) w ∧ (execOp (ev σ) o).events P w #[] = #[])
    (h : SL P n W q ops Q rest (updO σ o.dst v) L γ) : SL P n W q ops Q (o :: rest) σ L γ := by
  cases q
  · exact ⟨hd, .inl ⟨hg, (XL_val (ValOp.of hv) h).o⟩⟩
  · exact ⟨v, hd, .inl ⟨hg, fun K hK => XL_val (ValOp.of hv) hK⟩, h⟩
  · refine ⟨hd, fun _ => ⟨v, .inl ⟨hg, ?_⟩, h⟩, fun h1 => by omega⟩
    split <;> exact ValOp.of hv

/-- A value in every world in which the pieces lie, the world left as it is. -/
theorem SL_val (v : Value) (hk : kindOf o.op = 1) (hg : wantedσ ops σ o = true) (hd : dstOk n o.dst = true) (hv : ValOp P W L (execOp (ev σ) o) v)
    (h : SL P n W q ops Q rest (updO σ o.dst v) L γ) : SL P n W q ops Q (o :: rest) σ L γ := by
  cases q
  · exact ⟨hd, .inl ⟨hg, (XL_val hv h).o⟩⟩
  · exact ⟨v, hd, .inl ⟨hg, fun K hK => XL_val hv hK⟩, h⟩
  · exact ⟨hd, fun _ => ⟨v, .inl ⟨hg, by rw [if_neg (by omega)]; exact hv⟩, h⟩, fun h1 => by omega⟩

/-- A call whose one value is known, and that leaves the pieces as they are: in any order. -/
theorem SL_coreQ (hk : 2 ≤ kindOf o.op) (hg : wantedσ ops σ o = true) (hd : dstOk n o.dst = true) {f : FuncId} {args : Array Value} (v : Value)
    (hr : ∀ w, (execOp (ev σ) o).run P w = .ok (.enter f args) w) (he : ∀ w, (execOp (ev σ) o).events P w #[] = #[]) (hc : CallS P W f args L (fun v' L' => v' = v ∧ L' = L))
    (h : SL P n W q ops Q rest (updO σ o.dst v) L γ) : SL P n W q ops Q (o :: rest) σ L γ := by
  cases q
  · exact SL_coreC rfl hk hg hd hr he hc (by rintro v' L' ⟨rfl, rfl⟩; exact ⟨.inl rfl, h⟩)
  · exact ⟨v, hd, .inl ⟨hg, fun K hK => XL_call hr he (hc.mono (by rintro v' L' ⟨rfl, rfl⟩; exact hK))⟩, h⟩
  · exact SL_coreC rfl hk hg hd hr he hc (by rintro v' L' ⟨rfl, rfl⟩; exact ⟨.inr (List.Sublist.refl _), h⟩)

theorem SL.weaken {l : List Oper} {L' : List Ent} (hL : ∀ w, Mem W w L → Mem W w L') (h : SL P n W .plain ops Q l σ L' γ) (hQ : ∀ e σ L L' γ, (∀ w, Mem W w L → Mem W w L') → Q e σ L' γ → Q e σ L γ) : SL P n W .plain ops Q l σ L γ := by
  induction l generalizing σ with
  | nil => exact hQ _ _ _ _ _ hL h
  | cons o r ih =>
    obtain ⟨hd, h | h⟩ := h
    · exact ⟨hd, .inl ⟨h.1, h.2.weaken hL⟩⟩
    · exact ⟨hd, .inr ⟨h.1, ih h.2⟩⟩


def planQ (P : Program) (n : Nat) (W : Bs P) (Ls : List Ent) (ops : Array Oper) (Q : Exit → St → List Ent → W.Γ → Prop) (p : Plan) : Exit → St → List Ent → W.Γ → Prop
  | .normal, σ, L, γ => SPl P n W Ls ops Q p σ L γ
  | e, σ, L, γ => Q e σ L γ

theorem SP_fin {ops : Array Oper} {Ls : List Ent} (h : Q .normal σ L γ) : SPl P n W Ls ops Q .fin σ L γ := h
theorem SP_alt {ops : Array Oper} {Ls : List Ent} {p q : Plan} (h1 : SPl P n W Ls ops Q p σ L γ) (h2 : SPl P n W Ls ops Q q σ L γ) : SPl P n W Ls ops Q (.alt p q) σ L γ := ⟨h1, h2⟩

theorem SP_run {ops : Array Oper} {Ls : List Ent} : ∀ (l : List Nat) (p : Plan) (σ : St) (L : List Ent) (γ : W.Γ), (l.all fun i => (ops[i]?).isSome) = true → SL P n W (.sched Ls) ops (planQ P n W Ls ops Q p) (l.filterMap (ops[·]?)) σ L γ → SPl P n W Ls ops Q (Plan.ops l p) σ L γ
  | [], _, _, _, _, _, h => h
  | i :: r, p, σ, L, γ, hi, h => by
    rw [List.all_eq_true] at hi
    obtain ⟨o, ho⟩ := Option.isSome_iff_exists.1 (hi i (List.mem_cons_self ..))
    have hfm : (i :: r).filterMap (ops[·]?) = o :: r.filterMap (ops[·]?) := by simp [ho]
    rw [hfm] at h
    have hi' : (r.all fun i => (ops[i]?).isSome) = true := by rw [List.all_eq_true]; exact fun j hj => hi j (List.mem_cons_of_mem _ hj)
    obtain ⟨hd, h1, h2⟩ := h
    refine ⟨o, ho, hd, fun hk => ?_, fun hk => ?_⟩
    · obtain ⟨v, hv, hr⟩ := h1 hk
      exact ⟨v, hv, SP_run r p _ _ _ hi' hr⟩
    · obtain ⟨hy, hn⟩ := h2 hk
      exact ⟨fun hg => (hy hg).mono fun v L' γ' ⟨h3, h5, h4⟩ => ⟨h3, h5, SP_run r p _ _ _ hi' h4⟩, fun hg => SP_run r p _ _ _ hi' (hn hg)⟩

/-- These are read off the pieces that nothing in the region touches: a walk over those alone. -/
def stableQ (P : Program) (n : Nat) (W : Bs P) (Ls : List Ent) (ops : Array Oper) (Q : Exit → St → List Ent → W.Γ → Prop) (p : Plan) (L : List Ent) : Exit → St → List Ent → W.Γ → Prop
  | .normal, σ, _, γ => SPl P n W Ls ops Q p σ L γ
  | _, _, _, _ => False
theorem SP_runS {ops : Array Oper} {Ls : List Ent} : ∀ (l : List Nat) (p : Plan) (σ : St), (l.all fun i => ((ops[i]?).map fun o => decide (kindOf o.op ≤ 1)).getD false) = true →
    SL P n W (.sched []) ops (stableQ P n W Ls ops Q p L) (l.filterMap (ops[·]?)) σ Ls γ → SPl P n W Ls ops Q (Plan.opsS l p) σ L γ
  | [], _, _, _, h => h
  | i :: r, p, σ, hi, h => by
    rw [List.all_eq_true] at hi
    have h0 := hi i (List.mem_cons_self ..)
    cases ho : ops[i]? with
    | none => rw [ho] at h0; cases h0
    | some o =>
      rw [ho] at h0
      have hk : kindOf o.op ≤ 1 := by simpa using h0
      have hfm : (i :: r).filterMap (ops[·]?) = o :: r.filterMap (ops[·]?) := by simp [ho]
      rw [hfm] at h
      obtain ⟨v, hv, hr⟩ := h.2.1 hk
      refine ⟨o, ho, v, h.1, ?_, SP_runS r p _ (by rw [List.all_eq_true]; exact fun j hj => hi j (List.mem_cons_of_mem _ hj)) hr⟩
      rcases hv with ⟨h1, h2⟩ | h1
      · left
        refine ⟨h1, ?_⟩
        split at h2
        · exact h2.sub (List.nil_sublist _)
        · exact h2
      · exact .inr h1

/-- A region whose order is drawn, where no two that turn memory may come next at once. -/
theorem SC_sched {id : Nat} {ops : Array Oper} (plan : List Nat) (hm : P.follows .mixedOrders = true) (hsel : Region.noSelect ops = true) (hp : planOk ops false (Plan.ops plan .fin) (Array.replicate ops.size false) = true)
    (hlen : (Plan.ops plan .fin).len = ops.size) (hi : (plan.all fun i => (ops[i]?).isSome) = true) (hQ : ∀ c σ L γ, ¬ Q (.panic c) σ L γ) (h : SL P n W (.sched []) ops (planQ P n W [] ops Q .fin) (plan.filterMap (ops[·]?)) σ L γ) : SC P n W (.region id ops true) Q σ L γ :=
  SC_plan [] _ hm hsel hp hlen hQ (List.nil_sublist _) (SP_run _ _ _ _ _ hi h)

/-- A piece of code that only ends in the common way: what holds behind it. -/
def normQ {Γ : Type} (R : St → List Ent → Prop) : Exit → St → List Ent → Γ → Prop
  | .normal, σ, L, _ => R σ L
  | _, _, _, _ => False
theorem SC_cut [hΓ : Subsingleton W.Γ] {c : Code} (R : St → List Ent → Prop) (h1 : SC P n W c (normQ R) σ L γ) (h2 : ∀ σ L, R σ L → Q .normal σ L γ) : SC P n W c Q σ L γ :=
  h1.mono fun e σ L γ' h => by
    rw [hΓ.elim γ' γ]
    cases e with
    | normal => exact h2 σ L h
    | _ => exact h.elim

/-- Pieces let go. -/
theorem SC.drop {c : Code} (Lc : List Ent) (hs : Lc.Sublist L) (h : SC P n W c Q σ Lc γ) : SC P n W c Q σ L γ := h.weaken fun _ hw => hw.sublist hs
end

/-! ### Leaving -/
section
variable {P : Program} {n : Nat} {W : Bs P} {σ : St} {L : List Ent} {γ : W.Γ}
theorem leave1 {fn : Func} {t : Nat} {R : Value → List Ent → Prop} (hr : fn.results = #[.tmp t]) (h : R (σ t) L) : bodyQ P W fn R .ret σ L γ := by
  intro a w ha hw
  exact ⟨σ t, by rw [results_tmp hr, ha.get], by simp [results, hr], L, hw, h⟩
theorem leave1N {fn : Func} {t : Nat} {R : Value → List Ent → Prop} (hr : fn.results = #[.tmp t]) (h : R (σ t) L) : bodyQ P W fn R .normal σ L γ := by
  intro a w ha hw
  exact ⟨σ t, by rw [results_tmp hr, ha.get], by simp [results, hr], L, hw, h⟩
theorem leave1W {fn : Func} {t : Nat} {L' : List Ent} {R : Value → List Ent → Prop} (hr : fn.results = #[.tmp t]) (hL : ∀ w, Mem W w L → Mem W w L') (h : R (σ t) L') : bodyQ P W fn R .ret σ L γ := by
  intro a w ha hw
  exact ⟨σ t, by rw [results_tmp hr, ha.get], by simp [results, hr], L', hL w hw, h⟩
theorem leave0 {fn : Func} {R : Value → List Ent → Prop} (hr : fn.results = #[]) (h : R (.tuple #[]) L) : bodyQ P W fn R .normal σ L γ := by
  intro a w _ hw
  exact ⟨_, results_none hr _ _ _, by simp [results, hr], L, hw, h⟩
theorem leave0r {fn : Func} {R : Value → List Ent → Prop} (hr : fn.results = #[]) (h : R (.tuple #[]) L) : bodyQ P W fn R .ret σ L γ := by
  intro a w _ hw
  exact ⟨_, results_none hr _ _ _, by simp [results, hr], L, hw, h⟩
theorem leave2 {fn : Func} {t u : Nat} {R : Value → List Ent → Prop} (hr : fn.results = #[.tmp t, .tmp u]) (h : R (.tuple #[σ t, σ u]) L) : bodyQ P W fn R .ret σ L γ := by
  intro a w ha hw
  exact ⟨.tuple #[σ t, σ u], by rw [results_tmp2 hr, ha.get, ha.get], by simp [results, hr], L, hw, h⟩
theorem leave2W {fn : Func} {t u : Nat} {L' : List Ent} {R : Value → List Ent → Prop} (hr : fn.results = #[.tmp t, .tmp u]) (hL : ∀ w, Mem W w L → Mem W w L') (h : R (.tuple #[σ t, σ u]) L') : bodyQ P W fn R .ret σ L γ := by
  intro a w ha hw
  exact ⟨.tuple #[σ t, σ u], by rw [results_tmp2 hr, ha.get, ha.get], by simp [results, hr], L', hL w hw, h⟩
end

/-! ### What a program's type table says -/
/-! ### What a program's type table says -/
class SliceT (P : Program) (t : Nat) (e size bytes : outParam Nat) : Prop where
  ul : P.underlying t = some (.slice e)
  info : ∃ i z, P.info? e = some i ∧ i.zero = some z ∧ i.size = size ∧ i.bytes = bytes ∧ z.cells.size = size
  pos : 0 < size
class FieldT (P : Program) (t f : Nat) (off : outParam Nat) : Prop where
  fact : ∃ fs fl i, P.underlying t = some (.struct fs) ∧ fs[f]? = some fl ∧ fl.offset = off ∧ P.info? fl.type = some i ∧ i.size ≠ 0
class OneT (P : Program) (t : Nat) : Prop where
  fact : ∃ d, P.underlying t = some d ∧ (match d with | .struct _ | .array _ _ => false | _ => true) = true
  size : ∃ i, P.info? t = some i ∧ i.size = 1
class AggT (P : Program) (t : Nat) (size : outParam Nat) : Prop where
  fact : ∃ d, P.underlying t = some d ∧ (match d with | .struct _ | .array _ _ => true | _ => false) = true
  info : ∃ i, P.info? t = some i ∧ i.size = size
class ZeroT (P : Program) (t : Nat) (z : outParam (List Value)) : Prop where
  fact : ∃ i v, P.info? t = some i ∧ i.zero = some v ∧ v.cells = z.toArray


/-! ### Pure operations -/
/-! ### Pure operations -/
def pureBin (op : BinOp) (x y : Value) : Option Value :=
  match op, x, y with
  | .add, .int .i64 a, .int .i64 b => some (.int .i64 (IntKind.i64.wrap (a + b)))
  | .sub, .int .i64 a, .int .i64 b => some (.int .i64 (IntKind.i64.wrap (a - b)))
  | .mul, .int .i64 a, .int .i64 b => some (.int .i64 (IntKind.i64.wrap (a * b)))
  | .eql, .int .i64 a, .int .i64 b => some (.bool (a == b))
  | .neq, .int .i64 a, .int .i64 b => some (.bool (a != b))
  | .lss, .int .i64 a, .int .i64 b => some (.bool (decide (a < b)))
  | .leq, .int .i64 a, .int .i64 b => some (.bool (decide (a ≤ b)))
  | .gtr, .int .i64 a, .int .i64 b => some (.bool (decide (b < a)))
  | .geq, .int .i64 a, .int .i64 b => some (.bool (decide (b ≤ a)))
  | _, _, _ => none

/-- The value itself, where its form is known. -/
def force (v : Value) : Option Value :=
  match v with
  | .bool b => some (.bool b)
  | .int k n => some (.int k n)
  | .float k b => some (.float k b)
  | .complex k a b => some (.complex k a b)
  | .string s => some (.string s)
  | .pointer a => some (.pointer a)
  | .slice a n c => some (.slice a n c)
  | .map r => some (.map r)
  | .chan r => some (.chan r)
  | .func f a c => some (.func f a c)
  | .nilFunc => some .nilFunc
  | .iface t v => some (.iface t v)
  | .nilIface => some .nilIface
  | .agg cs => some (.agg cs)
  | .tuple vs => some (.tuple vs)
theorem force_eq (v : Value) : force v = some v := by cases v <;> rfl

def pureOp (ρ : Operand → Value) (o : Op) : Option Value :=
  match o with
  | .move x => force (ρ x)
  | .assign x => force (ρ x)
  | .pick c x y => match ρ c with
    | .bool true => force (ρ x)
    | .bool false => force (ρ y)
    | _ => none
  | .binOp op _ x y _ => pureBin op (ρ x) (ρ y)
  | .unOp .not _ x => match ρ x with
    | .bool b => some (.bool (!b))
    | _ => none
  | .extract x i => match ρ x with
    | .tuple vs => (vs.toList[i]?).bind force
    | _ => none
  | .call { callee := .builtin .max, args := ⟨[x, y]⟩, argTypes := _ } => match ρ x, ρ y with
    | .int .i64 a, .int .i64 b => some (.int .i64 (if a < b then b else a))
    | _, _ => none
  | .call { callee := .builtin .min, args := ⟨[x, y]⟩, argTypes := _ } => match ρ x, ρ y with
    | .int .i64 a, .int .i64 b => some (.int .i64 (if b < a then b else a))
    | _, _ => none
  | _ => none


theorem pureBin_sound {op : BinOp} {x y v : Value} (h : pureBin op x y = some v) (P : Program) (t : TypeId) (X Y : Operand) (w : World) :
    (do eqGuard op t X Y x y; binOp op t x y : Sem Value).run P w = .ok v w ∧ ∀ es, (do eqGuard op t X Y x y; binOp op t x y : Sem Value).events P w es = es := by
  unfold pureBin at h
  split at h <;> (first | (cases h; constructor <;> simp [go_sem]) | cases h)

theorem pureOp_sound {P : Program} {σ : St} {o : Oper} {v : Value} (h : pureOp (ev σ) o.op = some v) (w : World) : (execOp (ev σ) o).run P w = .ok (.value v) w ∧ (execOp (ev σ) o).events P w #[] = #[] := by
  obtain ⟨dst, op, type, pos, after, guard⟩ := o
  simp only at h
  unfold pureOp at h
  split at h
  · rw [force_eq] at h; cases h; exact ⟨rfl, rfl⟩
  · rw [force_eq] at h; cases h; exact ⟨rfl, rfl⟩
  · rename_i c x y
    split at h <;> rename_i hc
    · rw [force_eq] at h; cases h; constructor <;> simp [execOp, hc, asBool]
    · rw [force_eq] at h; cases h; constructor <;> simp [execOp, hc, asBool]
    · cases h
  · have := pureBin_sound h P
    simp only [execOp]
    rw [Sem.run_bind, (this _ _ _ w).1, Sem.events_bind, (this _ _ _ w).1, (this _ _ _ w).2]
    exact ⟨rfl, rfl⟩
  · rename_i x
    split at h <;> rename_i hc
    · cases h; constructor <;> simp [execOp, hc, Op.unary]
    · cases h
  · rename_i x i
    split at h <;> rename_i hc
    · rename_i vs
      have : vs[i]? = some v := by
        cases hx : vs.toList[i]? with
        | none => rw [hx] at h; cases h
        | some u => rw [hx] at h; simp only [Option.bind_some, force_eq] at h; cases h; simpa using hx
      constructor <;> simp [execOp, hc, Instr.extract, this]
    · cases h
  · split at h <;> rename_i h1 h2
    · cases h; constructor <;> simp [execOp, resolve, invoke, builtin, h1, h2, Builtin.max_, Builtin.max2]
    · cases h
  · split at h <;> rename_i h1 h2
    · cases h; constructor <;> simp [execOp, resolve, invoke, builtin, h1, h2, Builtin.min_, Builtin.min2]
    · cases h
  · cases h

theorem pureOp_kind {ρ : Operand → Value} {op : Op} {v : Value} (h : pureOp ρ op = some v) : kindOf op ≤ 1 := by
  unfold pureOp at h
  split at h <;> first | (exact Nat.le_of_ble_eq_true rfl) | cases h

section
variable {P : Program} {n : Nat} {W : Bs P} {q : Md} {Q : Exit → St → List Ent → W.Γ → Prop} {σ : St} {L : List Ent} {γ : W.Γ} {ops : Array Oper} {rest : List Oper}
  {dst : Option Nat} {ty : TypeId} {pos : String} {aft : Array Edge} {gd : Option (Nat × Bool)}

theorem SL_pure {op : Op} {v : Value} (hv : pureOp (ev σ) op = some v)
    (hg : wantedσ ops σ ⟨dst, op, ty, pos, aft, gd⟩ = true) (hd : dstOk n dst = true)
    (h : SL P n W q ops Q rest (updO σ dst v) L γ) : SL P n W q ops Q (⟨dst, op, ty, pos, aft, gd⟩ :: rest) σ L γ :=
  SL_valW v (pureOp_kind hv) hg hd (pureOp_sound hv) h

/-! ### Sums without a wrap -/
theorem SL_add {x y : Operand} {t t2 : TypeId} {a b : Int} (hx : ev σ x = .int .i64 a) (hy : ev σ y = .int .i64 b)
    (hr : -9223372036854775808 ≤ a + b ∧ a + b ≤ 9223372036854775807)
    (hg : wantedσ ops σ ⟨dst, .binOp .add t x y t2, ty, pos, aft, gd⟩ = true) (hd : dstOk n dst = true)
    (h : SL P n W q ops Q rest (updO σ dst (.int .i64 (a + b))) L γ) : SL P n W q ops Q (⟨dst, .binOp .add t x y t2, ty, pos, aft, gd⟩ :: rest) σ L γ := by
  refine SL_valW _ (Nat.le_of_ble_eq_true rfl) hg hd (fun w => pureOp_sound ?_ w) h
  simp only [pureOp, hx, hy, pureBin]
  rw [IntWalk.i64_in _ (by omega)]

theorem SL_sub {x y : Operand} {t t2 : TypeId} {a b : Int} (hx : ev σ x = .int .i64 a) (hy : ev σ y = .int .i64 b)
    (hr : -9223372036854775808 ≤ a - b ∧ a - b ≤ 9223372036854775807)
    (hg : wantedσ ops σ ⟨dst, .binOp .sub t x y t2, ty, pos, aft, gd⟩ = true) (hd : dstOk n dst = true)
    (h : SL P n W q ops Q rest (updO σ dst (.int .i64 (a - b))) L γ) : SL P n W q ops Q (⟨dst, .binOp .sub t x y t2, ty, pos, aft, gd⟩ :: rest) σ L γ := by
  refine SL_valW _ (Nat.le_of_ble_eq_true rfl) hg hd (fun w => pureOp_sound ?_ w) h
  simp only [pureOp, hx, hy, pureBin]
  rw [IntWalk.i64_in _ (by omega)]

/-! ### len -/
theorem SL_len {x : Operand} {t : TypeId} {A : Option Addr} {l c : Nat} {e s b : Nat} [hT : SliceT P t e s b] (hx : ev σ x = .slice A l c)
    (hg : wantedσ ops σ ⟨dst, .call { callee := .builtin .len, args := #[x], argTypes := #[t] }, ty, pos, aft, gd⟩ = true) (hd : dstOk n dst = true)
    (h : SL P n W q ops Q rest (updO σ dst (.int .i64 (l : Int))) L γ) :
    SL P n W q ops Q (⟨dst, .call { callee := .builtin .len, args := #[x], argTypes := #[t] }, ty, pos, aft, gd⟩ :: rest) σ L γ := by
  refine SL_valW _ (Nat.le_of_ble_eq_true rfl) hg hd (fun w => ?_) h
  constructor <;> simp [execOp, resolve, invoke, builtin, hx, Builtin.len_, run_underlying hT.ul, goInt]

class BoolT (P : Program) (t : Nat) : Prop where
  ul : P.underlying t = some .bool
theorem SL_eqB {x y : Operand} {t t2 : TypeId} {a b : Bool} [hT : BoolT P t] (hx : ev σ x = .bool a) (hy : ev σ y = .bool b)
    (hg : wantedσ ops σ ⟨dst, .binOp .eql t x y t2, ty, pos, aft, gd⟩ = true) (hd : dstOk n dst = true)
    (h : SL P n W q ops Q rest (updO σ dst (.bool (a == b))) L γ) : SL P n W q ops Q (⟨dst, .binOp .eql t x y t2, ty, pos, aft, gd⟩ :: rest) σ L γ := by
  refine SL_valW _ (Nat.le_of_ble_eq_true rfl) hg hd (fun w => ?_) h
  have he : ∀ w, (Op.equalIn 10000 t (.bool a) (.bool b)).events P w #[] = #[] := fun w => by
    rw [show 10000 = 9999 + 1 from rfl, Op.equalIn]
    simp [run_underlying hT.ul]
  constructor <;> simp [execOp, hx, hy, binOp, Op.equal, Op.maxDepth, run_equalIn_bool' w _ t a b hT.ul, go_sem, he]
class StrT (P : Program) (t : Nat) : Prop where
  ul : P.underlying t = some .string

/-! ### Addresses, readings -/
/-- The address of cell j of element i of a slice. -/
def elt (A : Option Addr) (size i j : Nat) : Addr := ⟨(A.getD default).block, (A.getD default).off + (i * size + j), none⟩

/-- A slice's cells read as a list. -/
def Rd {α : Type} (A : Option Addr) (size : Nat) (enc : α → List Value) (l : List α) (w : WO) : Prop :=
  l ≠ [] → ∃ b off, A = some ⟨b, off, none⟩ ∧ w.rd b ∧ ∀ i j x u, l[i]? = some x → (enc x)[j]? = some u → w.cell? ⟨b, off + (i * size + j), none⟩ = some u

theorem Rd_nil {α : Type} {A : Option Addr} {size : Nat} {enc : α → List Value} {w : WO} : Rd A size enc [] w := fun h => (h rfl).elim

theorem Rd.cell {α : Type} {A : Option Addr} {size : Nat} {enc : α → List Value} {l : List α} {w : WO} (h : Rd A size enc l w) {i j : Nat} {x : α} {u : Value}
    (hi : l[i]? = some x) (hj : (enc x)[j]? = some u) : w.cell? (elt A size i j) = some u := by
  obtain ⟨b, off, rfl, _, hc⟩ := h (by rintro rfl; simp at hi)
  exact hc i j x u hi hj
theorem Rd.rd {α : Type} {A : Option Addr} {size : Nat} {enc : α → List Value} {l : List α} {w : WO} (h : Rd A size enc l w) (hn : l ≠ []) {i j : Nat} : w.rd (elt A size i j).block := by
  obtain ⟨b, off, rfl, hr, _⟩ := h hn
  exact hr

theorem cell_lt {w : World} {a : Addr} {v : Value} (h : w.cell? a = some v) : a.block < w.heap.size := by
  unfold World.cell? at h
  split at h
  · rename_i hh; exact (Array.getElem?_eq_some_iff.1 hh).1
  · cases h

/-- A step that only reads. -/
theorem Kept.reads {w : WO} {es : Array Event} {R : Nat → Prop} (hN : w.R = R) (h : ∀ e ∈ es, ∃ a, e.loc = .cell a ∧ e.write = false ∧ a.block < w.heap.size ∧ w.rd a.block) : Kept R w.O w w es :=
  ⟨rfl, rfl, rfl, Nat.le_refl _, fun _ _ _ => rfl, fun e he => by
    obtain ⟨a, h1, h2, h3, h4⟩ := h e he
    exact .inl ⟨a, h1, h3, h4.elim .inl fun h => .inr (.inr ⟨h2, by rw [← hN]; exact h⟩)⟩⟩

theorem loadVar_one {w : World} {t : Nat} [hO : OneT P t] {a : Addr} {v : Value} (hc : w.cell? a = some v) :
    (loadVar t a).run P w = .ok v w ∧ ∀ es, (loadVar t a).events P w es = es.push ⟨.cell a, false, false⟩ := by
  obtain ⟨d, h1, h2⟩ := hO.fact
  have hag : (isAgg t).run P w = .ok false w := by
    simp only [isAgg, Sem.run_bind, run_underlying h1, Result.andThen_ok]
    cases d <;> simp_all
  constructor
  · simp [loadVar, Sem.run_bind, hag, hc]
  · intro es; simp [loadVar, hag, hc]; rfl

theorem loadVar_agg {w : World} {t s : Nat} [hO : AggT P t s] {a : Addr} {cs : List Value} (hl : cs.length = s) (hc : ∀ j v, cs[j]? = some v → w.cell? (a.add j) = some v) :
    (loadVar t a).run P w = .ok (.agg cs.toArray) w ∧ ∀ e ∈ (loadVar t a).events P w #[], ∃ ad, e.loc = .cell ad ∧ e.write = false ∧ ad.block = a.block := by
  obtain ⟨d, h1, h2⟩ := hO.fact
  obtain ⟨i, h3, h4⟩ := hO.info
  have hag : (isAgg t).run P w = .ok true w := by
    simp only [isAgg, Sem.run_bind, run_underlying h1, Result.andThen_ok]
    cases d <;> simp_all
  have hld := run_loadCells_list (P := P) (w := w) a cs hc
  have hsz : (sizeOf t).run P w = .ok cs.length w := by simp [sizeOf, typeInfo, h3, h4, hl]
  constructor
  · simp [loadVar, Sem.run_bind, hag, hsz, hld]
  · intro e he
    have he' : e ∈ (loadCellsFrom a 0 cs.length #[]).events P w #[] := by simpa [loadVar, hag, hsz, hld, loadCells] using he
    rcases events_loadCellsFrom_at (P := P) a (· = a.block) rfl cs.length 0 #[] w #[] (fun j hj => by simpa using isSome_of_list hc hj) e he' with h | ⟨ad, x, y, z⟩
    · simp at h
    · exact ⟨ad, x, y, z⟩

theorem SL_indexAddr {x ix : Operand} {t : TypeId} {A : Option Addr} {l c i : Nat} {e s b : Nat} [hT : SliceT P t e s b] {α : Type} {enc : α → List Value} {xs : List α}
    (hx : ev σ x = .slice A l c) (hi : ev σ ix = .int .i64 (i : Int)) (hlt : i < l) (hl : xs.length = l) (hk : Knows W L (Rd A s enc xs))
    (hg : wantedσ ops σ ⟨dst, .indexAddr t x ix, ty, pos, aft, gd⟩ = true) (hd : dstOk n dst = true)
    (h : SL P n W q ops Q rest (updO σ dst (.pointer (some (elt A s i 0)))) L γ) :
    SL P n W q ops Q (⟨dst, .indexAddr t x ix, ty, pos, aft, gd⟩ :: rest) σ L γ := by
  refine SL_val _ rfl hg hd (fun w hw => ?_) h
  obtain ⟨b, off, rfl, -⟩ := hk w hw (by rintro rfl; simp at hl; omega)
  obtain ⟨inf, z, hinf, -, hs, -, -⟩ := hT.info
  have hb : (0 : Int) ≤ i ∧ (i : Int) < l := by omega
  have he : (execOp (ev σ) ⟨dst, .indexAddr t x ix, ty, pos, aft, gd⟩).events P w #[] = #[] := by
    simp [execOp, hx, hi, Instr.indexAt, run_underlying hT.ul, asIntOf, sizeOf, typeInfo, hinf, go_sem, hlt]
  refine ⟨?_, by rw [he]; exact Kept.idle _ _ _⟩
  simp [execOp, hx, hi, Instr.indexAt, run_underlying hT.ul, asIntOf, sizeOf, typeInfo, hinf, hs, elt, go_sem]
  omega

theorem SL_fieldAddr {x : Operand} {t f off : Nat} {b k : Nat} [hF : FieldT P t f off] (hx : ev σ x = .pointer (some ⟨b, k, none⟩))
    (hg : wantedσ ops σ ⟨dst, .fieldAddr t x f, ty, pos, aft, gd⟩ = true) (hd : dstOk n dst = true)
    (h : SL P n W q ops Q rest (updO σ dst (.pointer (some ⟨b, k + off, none⟩))) L γ) :
    SL P n W q ops Q (⟨dst, .fieldAddr t x f, ty, pos, aft, gd⟩ :: rest) σ L γ := by
  refine SL_valW _ (Nat.le_of_ble_eq_true rfl) hg hd (fun w => ?_) h
  obtain ⟨fs, fl, i, h1, h2, h3, h4, h5⟩ := hF.fact
  constructor <;> simp [execOp, hx, Instr.fieldAt, run_underlying h1, h2, Instr.sureAddr, fieldPlace, sizeOf, typeInfo, h4, h5, h3, go_sem]

theorem SL_fieldElt {x : Operand} {t f off : Nat} {A : Option Addr} {s i j : Nat} [hF : FieldT P t f off] (hx : ev σ x = .pointer (some (elt A s i j)))
    (hg : wantedσ ops σ ⟨dst, .fieldAddr t x f, ty, pos, aft, gd⟩ = true) (hd : dstOk n dst = true)
    (h : SL P n W q ops Q rest (updO σ dst (.pointer (some (elt A s i (j + off))))) L γ) :
    SL P n W q ops Q (⟨dst, .fieldAddr t x f, ty, pos, aft, gd⟩ :: rest) σ L γ := by
  refine SL_valW _ (Nat.le_of_ble_eq_true rfl) hg hd (fun w => ?_) h
  obtain ⟨fs, fl, inf, h1, h2, h3, h4, h5⟩ := hF.fact
  constructor <;> simp [execOp, hx, Instr.fieldAt, run_underlying h1, h2, Instr.sureAddr, fieldPlace, sizeOf, typeInfo, h4, h5, h3, go_sem, elt, Nat.add_assoc]

/-- A load of one cell. -/
theorem ValOp.load {x : Operand} {t : Nat} [OneT P t] {a : Addr} {v : Value} (hx : ev σ x = .pointer (some a)) (hc : ∀ w : WO, Mem W w L → w.cell? a = some v ∧ w.rd a.block) :
    ValOp P W L (execOp (ev σ) ⟨dst, .load t x, ty, pos, aft, gd⟩) v := fun w hw => by
  obtain ⟨h1, h2⟩ := hc w hw
  obtain ⟨h3, h4⟩ := loadVar_one (P := P) (t := t) h1
  constructor
  · simp [execOp, hx, Instr.loadAt, Instr.sureAddr, h3]
  · have : (execOp (ev σ) ⟨dst, .load t x, ty, pos, aft, gd⟩).events P w #[] = #[⟨.cell a, false, false⟩] := by
      simp [execOp, hx, Instr.loadAt, Instr.sureAddr, h4]
    rw [this]
    refine Kept.reads hw.bnd fun e he => ?_
    have he : e = ⟨.cell a, false, false⟩ := by simpa using he
    subst he
    exact ⟨a, rfl, rfl, cell_lt h1, h2⟩
theorem ValOp.loadA {x : Operand} {t s : Nat} [AggT P t s] {a : Addr} {cs : List Value} (hx : ev σ x = .pointer (some a)) (hl : cs.length = s) (hs : 0 < s)
    (hc : ∀ w : WO, Mem W w L → (∀ j v, cs[j]? = some v → w.cell? (a.add j) = some v) ∧ w.rd a.block) :
    ValOp P W L (execOp (ev σ) ⟨dst, .load t x, ty, pos, aft, gd⟩) (.agg cs.toArray) := fun w hw => by
  obtain ⟨h1, h2⟩ := hc w hw
  obtain ⟨h3, h4⟩ := loadVar_agg (P := P) (t := t) hl h1
  constructor
  · simp [execOp, hx, Instr.loadAt, Instr.sureAddr, h3]
  · have : (execOp (ev σ) ⟨dst, .load t x, ty, pos, aft, gd⟩).events P w #[] = (loadVar t a).events P w #[] := by
      simp [execOp, hx, Instr.loadAt, Instr.sureAddr]
    rw [this]
    refine Kept.reads hw.bnd fun e he => ?_
    obtain ⟨ad, g1, g2, g3⟩ := h4 e he
    have hlt : a.block < w.heap.size := by
      have := cell_lt (h1 0 (cs[0]'(by omega)) (List.getElem?_eq_getElem _))
      rwa [addBlock] at this
    exact ⟨ad, g1, g2, by rw [g3]; exact hlt, by rw [g3]; exact h2⟩

/-- One cell of a slice that is read. -/
theorem SL_loadRd {x : Operand} {t : Nat} [OneT P t] {A : Option Addr} {s i j : Nat} {α : Type} {enc : α → List Value} {xs : List α} {e : α} {v : Value}
    (hx : ev σ x = .pointer (some (elt A s i j))) (hk : Knows W L (Rd A s enc xs)) (hi : xs[i]? = some e) (hj : (enc e)[j]? = some v)
    (hg : wantedσ ops σ ⟨dst, .load t x, ty, pos, aft, gd⟩ = true) (hd : dstOk n dst = true)
    (h : SL P n W q ops Q rest (updO σ dst v) L γ) : SL P n W q ops Q (⟨dst, .load t x, ty, pos, aft, gd⟩ :: rest) σ L γ :=
  SL_val _ rfl hg hd (ValOp.load hx fun w hw => ⟨(hk w hw).cell hi hj, (hk w hw).rd (by rintro rfl; simp at hi)⟩) h

/-- A whole element of a slice that is read. -/
theorem SL_loadRdA {x : Operand} {t : Nat} {A : Option Addr} {s i : Nat} [AggT P t s] {α : Type} {enc : α → List Value} {xs : List α} {e : α}
    (hx : ev σ x = .pointer (some (elt A s i 0))) (hk : Knows W L (Rd A s enc xs)) (hi : xs[i]? = some e) (hl : (enc e).length = s) (hs : 0 < s)
    (hg : wantedσ ops σ ⟨dst, .load t x, ty, pos, aft, gd⟩ = true) (hd : dstOk n dst = true)
    (h : SL P n W q ops Q rest (updO σ dst (.agg (enc e).toArray)) L γ) : SL P n W q ops Q (⟨dst, .load t x, ty, pos, aft, gd⟩ :: rest) σ L γ :=
  SL_val _ rfl hg hd (ValOp.loadA hx hl hs fun w hw => ⟨fun j v hj => by
    have h1 := (hk w hw).cell hi hj
    have h2 : (elt A s i 0).add j = elt A s i j := by simp [elt, Addr.add_lit, Nat.add_assoc]
    rw [h2]; exact h1, (hk w hw).rd (by rintro rfl; simp at hi)⟩) h

theorem Mem.rd {w : WO} {W : WR} (hw : Mem W w L) {e : Ent} (he : e ∈ L) {k : Nat} (hk : e.S k) : w.rd k := by
  unfold WO.rd
  rw [hw.bnd]
  rcases Nat.lt_or_ge k W.heap.size with h | h
  · exact .inr (hw.old e he k hk h)
  · exact .inl (hw.own e he k hk (.inr h))

/-- One cell of a block that is known whole. -/
theorem SL_load {x : Operand} {t : Nat} [OneT P t] {g k : Nat} {t' : TypeId} {cs : List Value} {v : Value}
    (hx : ev σ x = .pointer (some ⟨g, k, none⟩)) (hm : blk g t' cs ∈ L) (hv : cs[k]? = some v)
    (hg : wantedσ ops σ ⟨dst, .load t x, ty, pos, aft, gd⟩ = true) (hd : dstOk n dst = true)
    (h : SL P n W q ops Q rest (updO σ dst v) L γ) : SL P n W q ops Q (⟨dst, .load t x, ty, pos, aft, gd⟩ :: rest) σ L γ :=
  SL_val _ rfl hg hd (ValOp.load hx fun w hw => ⟨by
    have hh : w.heap[g]? = some (.cells cs.toArray t' (0, 0)) := (hw.ok _ hm).holds
    rw [cell_of_row w g k cs.toArray t' (0, 0) hh]; simpa using hv, hw.rd hm rfl⟩) h

/-- A struct out of a block that is known whole. -/
theorem SL_loadA {x : Operand} {t s : Nat} [AggT P t s] {g : Nat} {t' : TypeId} {cs : List Value}
    (hx : ev σ x = .pointer (some ⟨g, 0, none⟩)) (hm : blk g t' cs ∈ L) (hs : cs.length = s) (h0 : 0 < s)
    (hg : wantedσ ops σ ⟨dst, .load t x, ty, pos, aft, gd⟩ = true) (hd : dstOk n dst = true)
    (h : SL P n W q ops Q rest (updO σ dst (.agg cs.toArray)) L γ) : SL P n W q ops Q (⟨dst, .load t x, ty, pos, aft, gd⟩ :: rest) σ L γ :=
  SL_val _ rfl hg hd (ValOp.loadA hx hs h0 fun w hw => ⟨fun j v hj => by
    have hh : w.heap[g]? = some (.cells cs.toArray t' (0, 0)) := (hw.ok _ hm).holds
    rw [Addr.add_lit, cell_of_row w g _ cs.toArray t' (0, 0) hh]; simpa using hj, hw.rd hm rfl⟩) h
end

/-! ### Calls -/
section
variable {P : Program} {n : Nat} {W : Bs P} {q : Md} {Q : Exit → St → List Ent → W.Γ → Prop} {σ : St} {L : List Ent} {γ : W.Γ} {ops : Array Oper} {rest : List Oper}
  {dst : Option Nat} {ty : TypeId} {pos : String} {aft : Array Edge} {gd : Option (Nat × Bool)}

/-- What a function of the text is entered by. -/
def Enters (P : Program) (k : Nat) : Prop := ∀ args w, (callFunc k args).run P w = .ok (.enter k args) w ∧ (callFunc k args).events P w #[] = #[]
theorem Enters.of {k : Nat} {fn : Func} {c : Code} (hf : P.funcs[k]? = some fn) (hb : fn.body = some c) (hn : (fn.name == "runtime.NumGoroutine") = false := by kernel_rfl) : Enters P k := fun args w => by
  have h1 : ¬ fn.name = "runtime.NumGoroutine" := by simpa using hn
  constructor <;> simp [callFunc, hf, hb, h1]
theorem CallS.enters {f : FuncId} {args : Array Value} {R : Value → List Ent → Prop} (h : CallS P W f args L R) : Enters P f := by
  obtain ⟨fn, c, h1, h2, h3, _⟩ := h
  exact Enters.of h1 h2 h3

theorem run_call {f : Operand} {l : List Operand} {tys : Array TypeId} {k : Nat} {fst cap : List Value} (hf : ev σ f = .func (.func k) fst.toArray cap.toArray)
    (hcf : Enters P k) (w : World) :
    (execOp (ev σ) ⟨dst, .call { callee := .value f, args := l.toArray, argTypes := tys }, ty, pos, aft, gd⟩).run P w = .ok (.enter k (fst ++ l.map (ev σ) ++ cap).toArray) w ∧
    (execOp (ev σ) ⟨dst, .call { callee := .value f, args := l.toArray, argTypes := tys }, ty, pos, aft, gd⟩).events P w #[] = #[] := by
  constructor <;> simp [execOp, resolve, hf, Deferred.ofValue, invoke, (hcf _ _).1, (hcf _ _).2]

theorem SL_call {f : Operand} {l : List Operand} {tys : Array TypeId} {k : Nat} {fst cap : List Value} {R : Value → List Ent → Prop} (hf : ev σ f = .func (.func k) fst.toArray cap.toArray)
    (hc : CallS P W k (fst ++ l.map (ev σ) ++ cap).toArray L R)
    (hg : wantedσ ops σ ⟨dst, .call { callee := .value f, args := l.toArray, argTypes := tys }, ty, pos, aft, gd⟩ = true) (hd : dstOk n dst = true)
    (h : ∀ v L', R v L' → SL P n W .plain ops Q rest (updO σ dst v) L' γ) :
    SL P n W .plain ops Q (⟨dst, .call { callee := .value f, args := l.toArray, argTypes := tys }, ty, pos, aft, gd⟩ :: rest) σ L γ :=
  SL_coreC rfl (kind_call _ _ _) hg hd (fun w => (run_call hf hc.enters w).1) (fun w => (run_call hf hc.enters w).2) hc fun v L' hR => ⟨.inl rfl, h v L' hR⟩

/-- In a region that draws its order: the call keeps all pieces. -/
theorem SL_callS {Ls : List Ent} {f : Operand} {l : List Operand} {tys : Array TypeId} {k : Nat} {fst cap : List Value} {R : Value → List Ent → Prop} (hf : ev σ f = .func (.func k) fst.toArray cap.toArray)
    (hc : CallS P W k (fst ++ l.map (ev σ) ++ cap).toArray L R)
    (hg : wantedσ ops σ ⟨dst, .call { callee := .value f, args := l.toArray, argTypes := tys }, ty, pos, aft, gd⟩ = true) (hd : dstOk n dst = true)
    (h : ∀ v L', R v L' → L.Sublist L' ∧ SL P n W (.sched Ls) ops Q rest (updO σ dst v) L' γ) :
    SL P n W (.sched Ls) ops Q (⟨dst, .call { callee := .value f, args := l.toArray, argTypes := tys }, ty, pos, aft, gd⟩ :: rest) σ L γ :=
  SL_coreC rfl (kind_call _ _ _) hg hd (fun w => (run_call hf hc.enters w).1) (fun w => (run_call hf hc.enters w).2) hc fun v L' hR => ⟨.inr (h v L' hR).1, (h v L' hR).2⟩

theorem SL_callQ {f : Operand} {l : List Operand} {tys : Array TypeId} {k : Nat} {fst cap : List Value} (v : Value) (hf : ev σ f = .func (.func k) fst.toArray cap.toArray)
    (hc : CallS P W k (fst ++ l.map (ev σ) ++ cap).toArray L (fun v' L' => v' = v ∧ L' = L))
    (hg : wantedσ ops σ ⟨dst, .call { callee := .value f, args := l.toArray, argTypes := tys }, ty, pos, aft, gd⟩ = true) (hd : dstOk n dst = true)
    (h : SL P n W q ops Q rest (updO σ dst v) L γ) :
    SL P n W q ops Q (⟨dst, .call { callee := .value f, args := l.toArray, argTypes := tys }, ty, pos, aft, gd⟩ :: rest) σ L γ :=
  SL_coreQ (kind_call _ _ _) hg hd v (fun w => (run_call hf hc.enters w).1) (fun w => (run_call hf hc.enters w).2) hc h

theorem SL_makeFunc {k : Nat} {a b : List Operand}
    (hg : wantedσ ops σ ⟨dst, .makeFunc (.func k) a.toArray b.toArray, ty, pos, aft, gd⟩ = true) (hd : dstOk n dst = true)
    (h : SL P n W q ops Q rest (updO σ dst (.func (.func k) (a.map (ev σ)).toArray (b.map (ev σ)).toArray)) L γ) :
    SL P n W q ops Q (⟨dst, .makeFunc (.func k) a.toArray b.toArray, ty, pos, aft, gd⟩ :: rest) σ L γ :=
  SL_valW _ (Nat.le_of_ble_eq_true rfl) hg hd (fun w => by constructor <;> simp [execOp, Instr.makeFunc] <;> rfl) h

/-! ### Pieces that give way in place -/
def Put (L : List Ent) (e e' : Ent) (L' : List Ent) : Prop := ∃ pre post, L = pre ++ e :: post ∧ L' = pre ++ e' :: post
theorem Put.here {e e' : Ent} {L : List Ent} : Put (e :: L) e e' (e' :: L) := ⟨[], L, rfl, rfl⟩
theorem Put.there {x e e' : Ent} {L L' : List Ent} (h : Put L e e' L') : Put (x :: L) e e' (x :: L') := by
  obtain ⟨pre, post, rfl, rfl⟩ := h; exact ⟨x :: pre, post, rfl, rfl⟩
theorem Put.mem {e e' : Ent} {L L' : List Ent} (h : Put L e e' L') : e ∈ L := by obtain ⟨pre, post, rfl, rfl⟩ := h; simp

theorem Mem.put {W : WR} {w : WO} {w' : World} {e e' : Ent} {L L' : List Ent} (h : Mem W w L) (hp : Put L e e' L')
    (hos : w'.os = w.os) (htp : w'.tape = w.tape) (hout : w'.output = w.output) (hsz : w.heap.size ≤ w'.heap.size)
    (hk : ∀ k, k < w.heap.size → ¬ e.S k → w'.heap[k]? = w.heap[k]?) (hok : e'.ok w') (hS : ∀ k, e'.S k → e.S k ∨ w.heap.size ≤ k) (hmine : e'.mine = true → e.mine = true) : Mem W (w.to w') L' := by
  obtain ⟨pre, post, rfl, rfl⟩ := hp
  have h1 := (h.perm List.perm_middle).change (es := [e']) hos htp hout hsz hk (by simpa using hok) (by simpa using hS) (by simp) (by simpa using hmine)
  exact h1.perm (show (e' :: (pre ++ post)).Perm _ from (List.perm_middle).symm)

theorem Mem.toSelf {W : WR} {w : WO} {L : List Ent} (h : Mem W (w.to w.toWorld) L) : Mem W w L := by
  have e : w.to w.toWorld = w := by
    have := WO.same w
    show ({ toWorld := w.toWorld, O := _, R := w.R } : WO) = w
    rw [this]
  rwa [e] at h

/-- A new block at the head. -/
theorem Mem.alloc {W : WR} {w : WO} (h : Mem W w L) (t : TypeId) (cs : List Value) : Mem W (w.to (w.alloc (.cells cs.toArray t))) (blk w.heap.size t cs :: L) := by
  refine h.grow (es := [blk w.heap.size t cs]) rfl rfl rfl (by simp) (fun k hk => heap_alloc_old w.toWorld _ hk) ?_ ?_ (by simp)
  · intro x hx
    have hx : x = blk w.heap.size t cs := by simpa using hx
    subst hx
    exact ⟨fun k hk => by have hk : k = w.heap.size := hk; subst hk; simp, heap_alloc_new w.toWorld _⟩
  · intro x hx k hk
    have hx : x = blk w.heap.size t cs := by simpa using hx
    subst hx
    have hk : k = w.heap.size := hk
    omega
theorem Kept.alloc (R : Nat → Prop) (O : Nat → Prop) (w : World) (o : Obj) : Kept R O w (w.alloc o) #[] :=
  ⟨rfl, rfl, rfl, by simp, fun k hk _ => heap_alloc_old w _ hk, fun e he => by simp at he⟩
theorem Kept.setRow {R : Nat → Prop} {O : Nat → Prop} {w : World} {g : Nat} {cs : Array Value} {es : Array Event} (hO : O g) (hlt : g < w.heap.size) (h : ∀ e ∈ es, ∃ ad, e.loc = .cell ad ∧ ad.block = g) : Kept R O w (w.setRow g cs) es :=
  ⟨rfl, rfl, rfl, by simp [World.setRow], fun k _ hk => setRow_other w g k _ (fun e => hk (e ▸ hO)), fun e he => by
    obtain ⟨ad, h1, h2⟩ := h e he
    exact .inl ⟨ad, h1, by rw [h2]; simpa [World.setRow] using hlt, .inl (by rw [h2]; exact hO)⟩⟩

theorem SL_box {x : Operand} {t : Nat} {cs : List Value} (hx : (ev σ x).cells = cs.toArray)
    (hq : q.chg = true) (hg : wantedσ ops σ ⟨dst, .box t x, ty, pos, aft, gd⟩ = true) (hd : dstOk n dst = true)
    (h : ∀ g : Nat, SL P n W q ops Q rest (updO σ dst (.pointer (some ⟨g, 0, none⟩))) (blk g t cs :: L) γ) :
    SL P n W q ops Q (⟨dst, .box t x, ty, pos, aft, gd⟩ :: rest) σ L γ := by
  refine SL_core hq (Nat.le_of_ble_eq_true rfl) hg hd fun w hw => ⟨_, _, _, ?_, ?_, hw.alloc t cs, fun _ => List.sublist_cons_self _ _, .inl rfl, h _⟩
  · simp [execOp, Instr.box, newVar, newRow, hx]
  · have he : (execOp (ev σ) ⟨dst, .box t x, ty, pos, aft, gd⟩).events P w #[] = #[] := by simp [execOp, Instr.box, newVar, newRow, hx]
    rw [he]; exact Kept.alloc _ _ _ _

theorem SL_alloc {t : Nat} {cs : List Value} [hz : ZeroT P t cs]
    (hq : q.chg = true) (hg : wantedσ ops σ ⟨dst, .alloc t, ty, pos, aft, gd⟩ = true) (hd : dstOk n dst = true)
    (h : ∀ g : Nat, SL P n W q ops Q rest (updO σ dst (.pointer (some ⟨g, 0, none⟩))) (blk g t cs :: L) γ) :
    SL P n W q ops Q (⟨dst, .alloc t, ty, pos, aft, gd⟩ :: rest) σ L γ := by
  obtain ⟨i, v, h1, h2, h3⟩ := hz.fact
  refine SL_core hq (Nat.le_of_ble_eq_true rfl) hg hd fun w hw => ⟨_, _, _, ?_, ?_, hw.alloc t cs, fun _ => List.sublist_cons_self _ _, .inl rfl, h _⟩
  · simp [execOp, Instr.alloc, zeroValue, typeInfo, h1, h2, newVar, newRow, h3]
  · have he : (execOp (ev σ) ⟨dst, .alloc t, ty, pos, aft, gd⟩).events P w #[] = #[] := by simp [execOp, Instr.alloc, zeroValue, typeInfo, h1, h2, newVar, newRow]
    rw [he]; exact Kept.alloc _ _ _ _

theorem blk_heap {W : WR} {w : WO} {g : Nat} {t : TypeId} {cs : List Value} (hw : Mem W w L) (hm : blk g t cs ∈ L) : w.heap[g]? = some (.cells cs.toArray t (0, 0)) := (hw.ok _ hm).holds
theorem blk_own {W : WR} {w : WO} {g : Nat} {t : TypeId} {cs : List Value} (hw : Mem W w L) (hm : blk g t cs ∈ L) : w.O g := hw.own _ hm g rfl (.inl rfl)

theorem Mem.setRow {W : WR} {w : WO} {g : Nat} {t : TypeId} {cs cs' : List Value} {L L' : List Ent} (h : Mem W w L) (hp : Put L (blk g t cs) (blk g t cs') L') : Mem W (w.to (w.setRow g cs'.toArray)) L' := by
  have hh := blk_heap h hp.mem
  have hlt : g < w.heap.size := (Array.getElem?_eq_some_iff.1 hh).1
  refine h.put hp rfl rfl rfl (by simp [World.setRow]) (fun k _ hk => setRow_other w.toWorld g k _ (fun e => hk e)) ⟨fun k hk => ?_, ?_⟩ (fun k hk => .inl hk) (fun _ => rfl)
  · have hk : k = g := hk
    subst hk; simpa [World.setRow] using hlt
  · exact setRow_heap w.toWorld g cs.toArray cs'.toArray t (0, 0) hh

/-- Cells stored into a block. -/
theorem store_kept {W : WR} {w : WO} {g o : Nat} {t : TypeId} {cs vs : List Value} {L L' : List Ent} (h : Mem W w L) (hp : Put L (blk g t cs) (blk g t (cs.take o ++ vs ++ cs.drop (o + vs.length))) L') (hl : o + vs.length ≤ cs.length)
    (h1 : ∀ v ∈ vs, v.oneCell' = true) : (storeCells ⟨g, o, none⟩ vs).run P w = .ok () (w.setRow g (cs.take o ++ vs ++ cs.drop (o + vs.length)).toArray) ∧
      (∀ e ∈ (storeCells ⟨g, o, none⟩ vs).events P w #[], ∃ ad, e.loc = .cell ad ∧ ad.block = g) ∧ w.O g ∧ g < w.heap.size := by
  have hh := blk_heap h hp.mem
  have hlt : g < w.heap.size := (Array.getElem?_eq_some_iff.1 hh).1
  have hst := run_storeCells_at P g o t vs 0 cs.toArray w hh (by simpa using hl) h1
  simp only [Nat.add_zero] at hst
  refine ⟨hst, fun e he => ?_, blk_own h hp.mem, hlt⟩
  rcases events_storeCells_at (P := P) g o t vs 0 cs.toArray w #[] hh (by simpa using hl) h1 e he with h | h
  · simp at h
  · exact h

/-- A store of one cell. -/
theorem SL_store {a x : Operand} {t : Nat} [hO : OneT P t] {g k : Nat} {t' : TypeId} {cs : List Value} {v : Value} {L' : List Ent}
    (ha : ev σ a = .pointer (some ⟨g, k, none⟩)) (hx : ev σ x = v) (h1 : v.oneCell' = true) (hp : Put L (blk g t' cs) (blk g t' (cs.set k v)) L') (hk : k < cs.length)
    (hq : q.chg = true) (hkp : q.keeps L → q.keeps L') (hg : wantedσ ops σ ⟨none, .store t a x, ty, pos, aft, gd⟩ = true)
    (h : SL P n W q ops Q rest σ L' γ) : SL P n W q ops Q (⟨none, .store t a x, ty, pos, aft, gd⟩ :: rest) σ L γ := by
  obtain ⟨i, h2, h3⟩ := hO.size
  have hcells : v.cells = #[v] := by cases v <;> first | rfl | cases h1
  have hset : cs.take k ++ [v] ++ cs.drop (k + [v].length) = cs.set k v := by
    simp [List.set_eq_take_append_cons_drop, hk]
  refine SL_coreS hq rfl hg rfl fun w hw => ⟨w.setRow g (cs.set k v).toArray, L', ?_, ?_, hw.setRow hp, hkp, h⟩
  · obtain ⟨hst, _⟩ := store_kept (P := P) (o := k) (vs := [v]) hw (by rw [hset]; exact hp) (by simp; omega) (by simpa using h1)
    rw [hset] at hst
    simp [execOp, ha, hx, Instr.storeAt, Instr.sureAddr, storeVar, sizeOf, typeInfo, h2, h3, hcells, hst]
  · obtain ⟨hst, hev, hO, hlt⟩ := store_kept (P := P) (o := k) (vs := [v]) hw (by rw [hset]; exact hp) (by simp; omega) (by simpa using h1)
    refine Kept.setRow hO hlt fun e he => hev e ?_
    simpa [execOp, ha, hx, Instr.storeAt, Instr.sureAddr, storeVar, sizeOf, typeInfo, h2, h3, hcells, hst] using he

/-- A store of a whole struct. -/
theorem SL_storeA {a x : Operand} {t s : Nat} [hO : AggT P t s] {g : Nat} {t' : TypeId} {cs vs : List Value} {L' : List Ent}
    (ha : ev σ a = .pointer (some ⟨g, 0, none⟩)) (hx : ev σ x = .agg vs.toArray) (h1 : (vs.all Value.oneCell') = true) (hl : vs.length = s) (hp : Put L (blk g t' cs) (blk g t' vs) L') (hk : cs.length = s)
    (hq : q.chg = true) (hkp : q.keeps L → q.keeps L') (hg : wantedσ ops σ ⟨none, .store t a x, ty, pos, aft, gd⟩ = true)
    (h : SL P n W q ops Q rest σ L' γ) : SL P n W q ops Q (⟨none, .store t a x, ty, pos, aft, gd⟩ :: rest) σ L γ := by
  obtain ⟨i, h2, h3⟩ := hO.info
  have hset : cs.take 0 ++ vs ++ cs.drop (0 + vs.length) = vs := by
    have : cs.drop vs.length = [] := List.drop_eq_nil_of_le (by omega)
    simp [this]
  refine SL_coreS hq rfl hg rfl fun w hw => ⟨w.setRow g vs.toArray, L', ?_, ?_, hw.setRow hp, hkp, h⟩
  · obtain ⟨hst, _⟩ := store_kept (P := P) (o := 0) (vs := vs) hw (by rw [hset]; exact hp) (by omega) (by simpa using h1)
    rw [hset] at hst
    simp [execOp, ha, hx, Instr.storeAt, Instr.sureAddr, storeVar, sizeOf, typeInfo, h2, h3, Value.cells, hl, hst]
  · obtain ⟨hst, hev, hO, hlt⟩ := store_kept (P := P) (o := 0) (vs := vs) hw (by rw [hset]; exact hp) (by omega) (by simpa using h1)
    refine Kept.setRow hO hlt fun e he => hev e ?_
    simpa [execOp, ha, hx, Instr.storeAt, Instr.sureAddr, storeVar, sizeOf, typeInfo, h2, h3, Value.cells, hl, hst] using he
end

/-! ### Structs built -/
def spliceL (cells : List Value) (off : Nat) (vs : List Value) : List Value := cells.take off ++ vs ++ cells.drop (off + vs.length)
def fillL (place : Nat → Option (Nat × Nat)) (cells : List Value) : List (Nat × Value) → Option (List Value)
  | [] => some cells
  | (i, v) :: r => match place i with
    | none => none
    | some (off, size) => if v.cells.toList.length ≠ size || off + v.cells.toList.length > cells.length then none else fillL place (spliceL cells off v.cells.toList) r

theorem foldl_splice (vs : List Value) : ∀ (k off : Nat) (cs : Array Value), off + k + vs.length ≤ cs.size →
    ((vs.zipIdx k).foldl (fun cs (x : Value × Nat) => cs.setIfInBounds (off + x.2) x.1) cs).toList = spliceL cs.toList (off + k) vs := by
  induction vs with
  | nil => intro k off cs h; simp [spliceL]
  | cons v r ih =>
    intro k off cs h
    simp only [List.zipIdx_cons, List.foldl_cons]
    rw [show k + 1 = (k + 1) from rfl, ih (k + 1) off _ (by simp at h ⊢; omega)]
    unfold spliceL
    simp only [List.length_cons] at h
    simp only [Array.toList_setIfInBounds, List.length_cons]
    rw [List.set_eq_take_append_cons_drop, if_pos (by simp; omega)]
    rw [show off + (k + 1) = off + k + 1 from by omega]
    have h1 : (cs.toList.take (off + k)).length = off + k := by simp; omega
    rw [List.take_append, List.drop_append, h1]
    have e1 : off + k + 1 - (off + k) = 1 := by omega
    have e2 : off + k + 1 + r.length - (off + k) = r.length + 1 := by omega
    rw [e1, e2]
    have e3 : (cs.toList.take (off + k)).take (off + k + 1) = cs.toList.take (off + k) := List.take_of_length_le (by rw [h1]; omega)
    have e4 : (cs.toList.take (off + k)).drop (off + k + 1 + r.length) = [] := List.drop_eq_nil_of_le (by rw [h1]; omega)
    rw [e3, e4]
    simp [List.drop_drop, Nat.add_comm, Nat.add_left_comm, Nat.add_assoc]

theorem fill_fillL (place : Nat → Option (Nat × Nat)) : ∀ (parts : List (Nat × Value)) (cells : Array Value),
    Instr.fill place cells parts = (fillL place cells.toList parts).map List.toArray
  | [], cells => by simp [Instr.fill, fillL]
  | (i, v) :: r, cells => by
    unfold Instr.fill fillL
    cases place i with
    | none => rfl
    | some p =>
      obtain ⟨off, size⟩ := p
      simp only [Array.length_toList]
      split
      · rfl
      · rename_i h
        rw [fill_fillL place r]
        congr 1
        have h2 : off + v.cells.size ≤ cells.size := by simp at h; omega
        have := foldl_splice v.cells.toList 0 off cells (by simpa using h2)
        simp only [Nat.add_zero] at this
        rw [← this]
        congr 2
        rw [← Array.foldl_toList, Array.toList_zipIdx]

def forceL : List Value → Option (List Value)
  | [] => some []
  | v :: r => match force v with
    | some v' => match forceL r with
      | some r' => some (v' :: r')
      | none => none
    | none => none
theorem forceL_eq : ∀ l : List Value, forceL l = some l
  | [] => rfl
  | v :: r => by simp only [forceL, force_eq, forceL_eq r]
theorem bind_forceL {o : Option (List Value)} {cs : List Value} (h : o.bind forceL = some cs) : o = some cs := by
  cases o with
  | none => cases h
  | some l => simpa [forceL_eq] using h

class StructT (P : Program) (t : Nat) (offs : outParam (List (Nat × Nat))) (zero : outParam (List Value)) : Prop where
  fact : ∃ fs, P.underlying t = some (.struct fs) ∧ ∀ w, ((fs.mapM fun f => Prod.mk f.offset <$> sizeOf f.type : Sem (Array (Nat × Nat)))).run P w = .ok offs.toArray w ∧
    ((fs.mapM fun f => Prod.mk f.offset <$> sizeOf f.type : Sem (Array (Nat × Nat)))).events P w #[] = #[]
  zero : ZeroT P t zero

section
variable {P : Program} {n : Nat} {W : Bs P} {q : Md} {Q : Exit → St → List Ent → W.Γ → Prop} {σ : St} {L : List Ent} {γ : W.Γ} {ops : Array Oper} {rest : List Oper}
  {dst : Option Nat} {ty : TypeId} {pos : String} {aft : Array Edge} {gd : Option (Nat × Bool)}

theorem SL_build {t : Nat} {offs : List (Nat × Nat)} {zero : List Value} [hS : StructT P t offs zero] {parts : List (Nat × Operand)} {cs : List Value}
    (hf' : (fillL (offs[·]?) zero (parts.map fun p => (p.1, ev σ p.2))).bind forceL = some cs)
    (hg : wantedσ ops σ ⟨dst, .build t parts.toArray, ty, pos, aft, gd⟩ = true) (hd : dstOk n dst = true)
    (h : SL P n W q ops Q rest (updO σ dst (.agg cs.toArray)) L γ) :
    SL P n W q ops Q (⟨dst, .build t parts.toArray, ty, pos, aft, gd⟩ :: rest) σ L γ := by
  refine SL_valW _ (Nat.le_of_ble_eq_true rfl) hg hd (fun w => ?_) h
  have hf := bind_forceL hf'
  obtain ⟨fs, h1, h2⟩ := hS.fact
  obtain ⟨i, v, h3, h4, h5⟩ := hS.zero.fact
  have hfill : Instr.fill (offs.toArray[·]?) zero.toArray (parts.map fun p => (p.1, ev σ p.2)) = some cs.toArray := by
    rw [fill_fillL]; simp only [List.getElem?_toArray]; rw [hf]; rfl
  simp only [List.getElem?_toArray] at hfill
  have hz : (zeroValue t).run P w = .ok v w := by simp [zeroValue, typeInfo, h3, h4]
  constructor <;> simp [execOp, Instr.build, hz, run_underlying h1, (h2 _).1, (h2 _).2, h5, hfill]
end

/-! ### Lists in memory -/
class Enc {α : Type} (enc : α → List Value) (size : outParam Nat) : Prop where
  len : ∀ x, (enc x).length = size
  one : ∀ x, ∀ v ∈ enc x, v.oneCell' = true

theorem flat_length {α : Type} {enc : α → List Value} {size : Nat} (h : ∀ x, (enc x).length = size) (l : List α) : (l.flatMap enc).length = l.length * size := by
  induction l with
  | nil => simp
  | cons x r ih => simp only [List.flatMap_cons, List.length_append, ih, h, List.length_cons, Nat.add_mul]; omega

theorem flat_get {α : Type} {enc : α → List Value} {size : Nat} (h : ∀ x, (enc x).length = size) : ∀ (l : List α) (i j : Nat) (x : α) (u : Value),
    l[i]? = some x → (enc x)[j]? = some u → (l.flatMap enc)[i * size + j]? = some u
  | [], _, _, _, _, h1, _ => by simp at h1
  | y :: r, 0, j, x, u, h1, h2 => by
    simp at h1; subst h1
    have : j < (enc y).length := (List.getElem?_eq_some_iff.1 h2).1
    rw [List.flatMap_cons, List.getElem?_append_left (by omega)]
    simpa using h2
  | y :: r, i + 1, j, x, u, h1, h2 => by
    simp at h1
    rw [List.flatMap_cons, List.getElem?_append_right (by rw [h y, Nat.add_mul]; omega)]
    have : (i + 1) * size + j - (enc y).length = i * size + j := by rw [h y, Nat.add_mul]; omega
    rw [this]
    exact flat_get h r i j x u h1 h2

/-- The other way: each cell of the flat list is a cell of some element. -/
theorem flat_at {α : Type} {enc : α → List Value} {size : Nat} (h : ∀ x, (enc x).length = size) (hs : 0 < size) {l : List α} {k : Nat} {u : Value}
    (hk : (l.flatMap enc)[k]? = some u) : ∃ x, l[k / size]? = some x ∧ (enc x)[k % size]? = some u := by
  have hlt : k < l.length * size := by rw [← flat_length h]; exact (List.getElem?_eq_some_iff.1 hk).1
  have hi : k / size < l.length := (Nat.div_lt_iff_lt_mul hs).2 hlt
  have hj : k % size < size := Nat.mod_lt _ hs
  obtain ⟨x, hx⟩ : ∃ x, l[k / size]? = some x := ⟨_, List.getElem?_eq_getElem hi⟩
  obtain ⟨v, hv⟩ : ∃ v, (enc x)[k % size]? = some v := ⟨_, List.getElem?_eq_getElem (by rw [h x]; exact hj)⟩
  have := flat_get h l _ _ x v hx hv
  rw [show k / size * size + k % size = k from by rw [Nat.mul_comm]; exact Nat.div_add_mod k size] at this
  rw [this] at hk
  cases hk
  exact ⟨x, hx, hv⟩

/-- A slice of the call's own, that may grow: it has no room at all, or it starts a block that nothing else reads. -/
def Own {α : Type} (e size : Nat) (enc : α → List Value) (A : Option Addr) (c : Nat) (l : List α) (w : World) : Prop :=
  (c = 0 ∧ l = []) ∨ ∃ g cur, 0 < c ∧ A = some ⟨g, 0, none⟩ ∧ w.heap[g]? = some (.cells cur e (0, 0)) ∧ l.length ≤ c ∧ c ≤ maxLen ∧ cur.size = c * size ∧ cur.toList.take (l.length * size) = l.flatMap enc

def rowT {α : Type} (e size : Nat) (enc : α → List Value) (A : Option Addr) (c : Nat) (l : List α) : Ent :=
  ⟨fun k => 0 < c ∧ ∃ a, A = some a ∧ a.block = k, Own e size enc A c l, fun w w' h hp => by
    rcases hp with hp | ⟨g, cur, hc, rfl, hg, r⟩
    · exact .inl hp
    · exact .inr ⟨g, cur, hc, rfl, (h g ⟨hc, _, rfl, rfl⟩).trans hg, r⟩, true⟩

section
variable {W : WR} {L : List Ent} {α : Type} {enc : α → List Value} {size : Nat}

theorem Rd_of_cells {w : WO} {g : Nat} {l : List α} (h : ∀ x, (enc x).length = size) (hr : w.rd g) (hc : ∀ j u, (l.flatMap enc)[j]? = some u → w.cell? ⟨g, j, none⟩ = some u) :
    Rd (some ⟨g, 0, none⟩) size enc l w := fun _ => ⟨g, 0, rfl, hr, fun i j x u h1 h2 => by rw [Nat.zero_add]; exact hc _ u (flat_get h l i j x u h1 h2)⟩

theorem rowT_holds {w : World} {e : Nat} {A : Option Addr} {c : Nat} {l : List α} (h : (rowT e size enc A c l).p w) : Own e size enc A c l w := h

theorem Own.cap {w : World} {e : Nat} {A : Option Addr} {c : Nat} {l : List α} (h : Own e size enc A c l w) : l.length ≤ c ∧ c ≤ maxLen := by
  rcases h with ⟨rfl, rfl⟩ | ⟨g, cur, _, _, _, h5, h6, _⟩
  · exact ⟨Nat.le_refl _, by decide⟩
  · exact ⟨h5, h6⟩

theorem rowT_Rd [hE : Enc enc size] {e : Nat} {A : Option Addr} {c : Nat} {l : List α} (hm : rowT e size enc A c l ∈ L) : Knows W L (Rd A size enc l) := by
  intro w hw hne
  rcases rowT_holds (hw.ok _ hm).holds with ⟨_, h⟩ | ⟨g, cur, hc0, rfl, hg, _, _, _, ht⟩
  · exact absurd h hne
  · refine Rd_of_cells hE.len (hw.rd hm ⟨hc0, _, rfl, rfl⟩) (fun j u hu => ?_) hne
    rw [cell_of_row w.toWorld g j cur e (0, 0) hg, ← Array.getElem?_toList]
    rw [← ht, List.getElem?_take] at hu
    split at hu
    · exact hu
    · cases hu

theorem rowT_cap {e : Nat} {A : Option Addr} {c : Nat} {l : List α} (hm : rowT e size enc A c l ∈ L) {w : WO} (hw : Mem W w L) : l.length ≤ c ∧ c ≤ maxLen :=
  (rowT_holds (hw.ok _ hm).holds).cap

theorem blk_Rd [hE : Enc enc size] {g t : Nat} {cs : List Value} {l : List α} (hm : blk g t cs ∈ L) (hcs : cs = l.flatMap enc) : Knows W L (Rd (some ⟨g, 0, none⟩) size enc l) := by
  intro w hw
  have hh : w.heap[g]? = some (.cells cs.toArray t (0, 0)) := (hw.ok _ hm).holds
  refine Rd_of_cells hE.len (hw.rd hm rfl) fun j u hu => ?_
  rw [cell_of_row w.toWorld g j cs.toArray t (0, 0) hh, hcs]
  simpa using hu

/-- A made block is a row. -/
theorem Mem.row_of_blk {w : WO} [hE : Enc enc size] {g t : Nat} {cs : List Value} {l : List α} {L' : List Ent} (hw : Mem W w L) (hcs : cs = l.flatMap enc) (hmax : l.length ≤ maxLen)
    (hp : Put L (blk g t cs) (rowT t size enc (some ⟨g, 0, none⟩) l.length l) L') : Mem W w L' := by
  have hh : w.heap[g]? = some (.cells cs.toArray t (0, 0)) := (hw.ok _ hp.mem).holds
  have hlt : g < w.heap.size := (Array.getElem?_eq_some_iff.1 hh).1
  have hS : ∀ k, (rowT t size enc (some ⟨g, 0, none⟩) l.length l).S k → k = g := by
    rintro k ⟨_, a, ha, hk⟩
    cases ha; exact hk.symm
  refine (hw.put hp rfl rfl rfl (Nat.le_refl _) (fun _ _ _ => rfl) ⟨fun k hk => by rw [hS k hk]; exact hlt, ?_⟩ (fun k hk => .inl (hS k hk)) (fun _ => rfl)).toSelf
  show Own t size enc (some ⟨g, 0, none⟩) l.length l w.toWorld
  have hlen := flat_length hE.len l
  rcases Nat.eq_zero_or_pos l.length with h0 | h0
  · exact .inl ⟨h0, List.eq_nil_of_length_eq_zero h0⟩
  · refine .inr ⟨g, cs.toArray, h0, rfl, hh, Nat.le_refl _, hmax, by rw [hcs]; simpa using hlen, ?_⟩
    show cs.take _ = _
    rw [hcs, ← hlen, List.take_length]

/-- A slice without room is a row that lies nowhere. -/
theorem Mem.row_nil {w : WO} (hw : Mem W w L) (e size : Nat) (enc : α → List Value) (A : Option Addr) : Mem W w (rowT e size enc A 0 [] :: L) := by
  have hS : ∀ k, ¬ (rowT e size enc A 0 ([] : List α)).S k := fun k hk => absurd hk.1 (by omega)
  refine (hw.grow (es := [rowT e size enc A 0 []]) rfl rfl rfl (Nat.le_refl _) (fun _ _ => rfl) ?_ ?_ (by simp)).toSelf
  · intro x hx
    have hx : x = rowT e size enc A 0 [] := by simpa using hx
    subst hx
    exact ⟨fun k hk => absurd hk (hS k), .inl ⟨rfl, rfl⟩⟩
  · intro x hx k hk
    have hx : x = rowT e size enc A 0 [] := by simpa using hx
    subst hx
    exact absurd hk (hS k)
end

section
variable {P : Program} {n : Nat} {W : Bs P} {q : Md} {Q : Exit → St → List Ent → W.Γ → Prop} {σ : St} {L : List Ent} {γ : W.Γ} {ops : Array Oper} {rest : List Oper}
  {dst : Option Nat} {ty : TypeId} {pos : String} {aft : Array Edge} {gd : Option (Nat × Bool)} {α : Type} {enc : α → List Value}

/-! ### Slices of slices -/
theorem Rd.sub {A : Option Addr} {size : Nat} {xs : List α} {w : WO} (h : Rd A size enc xs w) {lo hi m : Nat} (_hlo : lo ≤ hi) (hhi : hi ≤ xs.length) (hm : hi ≤ m) :
    Rd (if m = lo then A else A.map (·.add (lo * size))) size enc ((xs.take hi).drop lo) w := by
  intro hne
  have hlt : lo < hi := by
    rcases Nat.lt_or_ge lo hi with h | h
    · exact h
    · exact absurd (List.drop_eq_nil_of_le (by simp; omega)) hne
  obtain ⟨b, off, rfl, hr, hc⟩ := h (by rintro rfl; simp at hne)
  rw [if_neg (by omega)]
  refine ⟨b, off + lo * size, by simp [Addr.add_lit], hr, fun i j x u h1 h2 => ?_⟩
  rw [List.getElem?_drop, List.getElem?_take] at h1
  split at h1
  · have := hc (lo + i) j x u h1 h2
    rw [Nat.add_mul] at this
    rw [show off + lo * size + (i * size + j) = off + (lo * size + i * size + j) from by omega]
    exact this
  · cases h1

theorem run_size {t e s b : Nat} [hT : SliceT P t e s b] (w : World) : (sizeOf e).run P w = .ok s w := by
  obtain ⟨inf, z, hinf, -, hs, -, -⟩ := hT.info
  simp [sizeOf, typeInfo, hinf, hs]

theorem sub_length {xs : List α} {lo hi : Nat} (hhi : hi ≤ xs.length) : ((xs.take hi).drop lo).length = hi - lo := by simp; omega

/-- The one law of 'x[lo:hi:m]'. -/
theorem SL_slice {x : Operand} {lo hi mx : Option Operand} {t : TypeId} {A : Option Addr} {c l h m : Nat} {e s b : Nat} [hT : SliceT P t e s b] {xs : List α}
    (hx : ev σ x = .slice A xs.length c) (hb : ∀ w, (Instr.sliceBounds true xs.length c (lo.map (ev σ)) (hi.map (ev σ)) (mx.map (ev σ))).run P w = .ok (l, h, m) w ∧ (Instr.sliceBounds true xs.length c (lo.map (ev σ)) (hi.map (ev σ)) (mx.map (ev σ))).events P w #[] = #[])
    (hl : l ≤ h) (hh : h ≤ xs.length) (hm : h ≤ m) (hk : Knows W L (Rd A s enc xs))
    (hg : wantedσ ops σ ⟨dst, .slice t x lo hi mx, ty, pos, aft, gd⟩ = true) (hd : dstOk n dst = true)
    (H : ∀ A' c', ((xs.take h).drop l).length ≤ c' → c' = m - l → Knows W L (Rd A' s enc ((xs.take h).drop l)) →
      SL P n W q ops Q rest (updO σ dst (.slice A' ((xs.take h).drop l).length c')) L γ) :
    SL P n W q ops Q (⟨dst, .slice t x lo hi mx, ty, pos, aft, gd⟩ :: rest) σ L γ := by
  refine SL_val _ rfl hg hd (fun w hw => ?_) (H (if m = l then A else A.map (·.add (l * s))) (m - l) (by rw [sub_length hh]; omega) rfl (hk.mono fun w hw => hw.sub hl hh hm))
  have hsz := run_size (P := P) (t := t) w.toWorld
  constructor
  · simp only [execOp, hx, Instr.sliceAt, Instr.slice, Sem.run_bind, run_underlying hT.ul, Result.andThen_ok, (hb _).1, hsz, Sem.run_pure, sub_length hh]
  · have he : (execOp (ev σ) ⟨dst, .slice t x lo hi mx, ty, pos, aft, gd⟩).events P w #[] = #[] := by
      simp only [execOp, hx, Instr.sliceAt, Instr.slice, Sem.run_bind, run_underlying hT.ul, Result.andThen_ok, (hb _).1, hsz, Sem.run_pure, Sem.events_bind, Result.evThen_ok, events_underlying, (hb _).2, events_sizeOf, Sem.events_pure]
    rw [he]; exact Kept.idle _ _ _

theorem bounds_h {len cap : Nat} {h : Nat} (hh : h ≤ cap) (w : World) : (Instr.sliceBounds true len cap none (some (.int .i64 (h : Int))) none).run P w = .ok (0, h, cap) w ∧ (Instr.sliceBounds true len cap none (some (.int .i64 (h : Int))) none).events P w #[] = #[] := by
  constructor <;> simp [Instr.sliceBounds, Instr.sliceBound, asIntOf, hh]
theorem bounds_l {len cap : Nat} {l : Nat} (hh : l ≤ len) (w : World) : (Instr.sliceBounds true len cap (some (.int .i64 (l : Int))) none none).run P w = .ok (l, len, cap) w ∧ (Instr.sliceBounds true len cap (some (.int .i64 (l : Int))) none none).events P w #[] = #[] := by
  constructor <;> simp [Instr.sliceBounds, Instr.sliceBound, asIntOf, hh]

/-! ### Slices made -/
theorem SL_buildSlice {t len : Nat} {e s b : Nat} [hT : SliceT P t e s b] {zero : List Value} [hz : ZeroT P e zero] {parts : List (Nat × Operand)} {cs : List Value}
    (hbig : len * s ≤ 16777216) (hf' : (fillL (fun i => some (i * s, s)) ((List.replicate len zero).flatten) (parts.map fun p => (p.1, ev σ p.2))).bind forceL = some cs) (hzl : zero.length = s)
    (hq : q.chg = true) (hg : wantedσ ops σ ⟨dst, .buildSlice t len parts.toArray, ty, pos, aft, gd⟩ = true) (hd : dstOk n dst = true)
    (h : ∀ g : Nat, SL P n W q ops Q rest (updO σ dst (.slice (some ⟨g, 0, none⟩) len len)) (blk g e cs :: L) γ) :
    SL P n W q ops Q (⟨dst, .buildSlice t len parts.toArray, ty, pos, aft, gd⟩ :: rest) σ L γ := by
  have hf := bind_forceL hf'
  have key : ∀ w : World, (execOp (ev σ) ⟨dst, .buildSlice t len parts.toArray, ty, pos, aft, gd⟩).run P w = .ok (.value (.slice (some ⟨w.heap.size, 0, none⟩) len len)) (w.alloc (.cells cs.toArray e)) ∧
      (execOp (ev σ) ⟨dst, .buildSlice t len parts.toArray, ty, pos, aft, gd⟩).events P w #[] = #[] := by
    intro w
    obtain ⟨i, v, h3, h4, h5⟩ := hz.fact
    have hsz := run_size (P := P) (t := t) w
    have hzv : (zeroValue e).run P w = .ok v w := by simp [zeroValue, typeInfo, h3, h4]
    have hpos := hT.pos
    have hzc : ((Array.range (len * s)).map (zero.toArray[· % zero.toArray.size]!)).toList = (List.replicate len zero).flatten := by
      apply List.ext_getElem?
      intro k
      have hfl : ∀ (m k : Nat), (List.replicate m zero).flatten[k]? = if k < m * s then some (zero.toArray[k % zero.length]!) else none := by
        intro m
        induction m with
        | zero => intro k; simp
        | succ m ih =>
          intro k
          rw [List.replicate_succ, List.flatten_cons]
          by_cases hk : k < s
          · rw [List.getElem?_append_left (by omega), if_pos (by rw [Nat.add_mul]; omega), List.getElem?_eq_getElem (by omega)]
            simp [hzl, Nat.mod_eq_of_lt hk, hk]
          · rw [List.getElem?_append_right (by omega), ih]
            have e1 : (k - zero.length < m * s) ↔ (k < (m + 1) * s) := by rw [Nat.add_mul]; omega
            have e2 : (k - zero.length) % zero.length = k % zero.length := by
              conv => rhs; rw [show k = (k - zero.length) + zero.length from by omega]
              simp
            simp only [e1, e2]
      rw [hfl]
      simp only [Array.toList_map, Array.toList_range, List.getElem?_map, List.size_toArray]
      split <;> rename_i hk
      · simp [hk]
      · simp [hk]
    have hfill : Instr.fill (fun i => some (i * s, s)) ((Array.range (len * s)).map (zero.toArray[· % zero.toArray.size]!)) (parts.map fun p => (p.1, ev σ p.2)) = some cs.toArray := by
      rw [fill_fillL, hzc, hf]; rfl
    by_cases h0 : len * s = 0
    · have ez : ∀ f : Nat → Value, (Array.range (len * s)).map f = #[] := by intro f; apply Array.eq_empty_of_size_eq_zero; simp [h0]
      rw [ez] at hfill
      simp only [List.map_toArray, execOp, Instr.buildSlice, Sem.run_bind, run_underlying hT.ul, Result.andThen_ok, hsz, Sem.events_bind, Result.evThen_ok, events_underlying, events_sizeOf]
      rw [if_neg (by omega), if_pos h0]
      simp only [Sem.run_bind, Sem.run_pure, Result.andThen_ok, ez, hfill, Sem.events_bind, Result.evThen_ok, Sem.events_pure]
      simp [newRow]
    · have hno : ¬ (len * s > 2 ^ 24) := by omega
      simp only [List.map_toArray, execOp, Instr.buildSlice, Sem.run_bind, run_underlying hT.ul, Result.andThen_ok, hsz, Sem.events_bind, Result.evThen_ok, events_underlying, events_sizeOf]
      rw [if_neg hno, if_neg h0]
      simp only [Sem.run_bind, Sem.run_pure, Result.andThen_ok, hzv, h5, Sem.events_bind, Result.evThen_ok, Sem.events_pure, events_zeroValue]
      simp only [hfill]
      simp [newRow]
  refine SL_core hq (Nat.le_of_ble_eq_true rfl) hg hd fun w hw => ⟨_, _, _, (key w).1, by rw [(key w).2]; exact Kept.alloc _ _ _ _, hw.alloc e cs, fun _ => List.sublist_cons_self _ _, .inl rfl, h _⟩

theorem SL_makeSlice {t : Nat} {e s b : Nat} [hT : SliceT P t e s b] {zero : List Value} [hz : ZeroT P e zero] {x y : Operand} {N : Nat}
    (hx : ev σ x = .int .i64 (N : Int)) (hy : ev σ y = .int .i64 (N : Int)) (hb : N * b ≤ 140737488355328) (hN : N ≤ maxLen) (hzl : zero.length = s)
    (hq : q.chg = true) (hg : wantedσ ops σ ⟨dst, .makeSlice t x y, ty, pos, aft, gd⟩ = true) (hd : dstOk n dst = true)
    (h : ∀ g : Nat, SL P n W q ops Q rest (updO σ dst (.slice (some ⟨g, 0, none⟩) N N)) (blk g e ((List.replicate N zero).flatten) :: L) γ) :
    SL P n W q ops Q (⟨dst, .makeSlice t x y, ty, pos, aft, gd⟩ :: rest) σ L γ := by
  have key : ∀ w : World, (execOp (ev σ) ⟨dst, .makeSlice t x y, ty, pos, aft, gd⟩).run P w = .ok (.value (.slice (some ⟨w.heap.size, 0, none⟩) N N)) (w.alloc (.cells ((List.replicate N zero).flatten).toArray e)) ∧
      (execOp (ev σ) ⟨dst, .makeSlice t x y, ty, pos, aft, gd⟩).events P w #[] = #[] := by
    intro w
    obtain ⟨inf, z, h1, h2, h3, h4, h5⟩ := hT.info
    obtain ⟨i', v, g3, g4, g5⟩ := hz.fact
    rw [h1] at g3; cases g3
    rw [h2] at g4; cases g4
    have hbb : (inf.bytes : Int) * (N : Int) ≤ 281474976710656 := by
      have : ((inf.bytes * N : Nat) : Int) ≤ 281474976710656 := by rw [h4, Nat.mul_comm]; omega
      rwa [Int.natCast_mul] at this
    have hmx : (N : Int) ≤ 9223372036854775807 := by unfold maxLen at hN; omega
    have hr := run_make (P := P) w t e inf z hT.ul h1 h2 .i64 .i64 N N (by omega) (Int.le_refl _) hbb hmx
    have hev := Conc.events_make (P := P) w t e inf z hT.ul h1 h2 .i64 .i64 N N (by omega) (Int.le_refl _) hbb hmx (by rw [h4, Int.toNat_natCast]; exact hb) #[]
    have hpos := hT.pos
    have hcells : madeCells z.cells ((N : Int).toNat * inf.size) = ((List.replicate N zero).flatten).toArray := by
      apply Array.ext'
      apply List.ext_getElem?
      intro k
      have hfl : ∀ (m k : Nat), (List.replicate m zero).flatten[k]? = if k < m * s then some (zero.toArray[k % zero.length]!) else none := by
        intro m
        induction m with
        | zero => intro k; simp
        | succ m ih =>
          intro k
          rw [List.replicate_succ, List.flatten_cons]
          by_cases hk : k < s
          · rw [List.getElem?_append_left (by omega), if_pos (by rw [Nat.add_mul]; omega), List.getElem?_eq_getElem (by omega)]
            simp [hzl, Nat.mod_eq_of_lt hk, hk]
          · rw [List.getElem?_append_right (by omega), ih]
            have e1 : (k - zero.length < m * s) ↔ (k < (m + 1) * s) := by rw [Nat.add_mul]; omega
            have e2 : (k - zero.length) % zero.length = k % zero.length := by
              conv => rhs; rw [show k = (k - zero.length) + zero.length from by omega]
              simp
            simp only [e1, e2]
      rw [hfl, g5, h3]
      simp only [madeCells, Int.toNat_natCast, Array.toList_map, Array.toList_range, List.getElem?_map, List.size_toArray]
      split <;> rename_i hk
      · simp [hk]
      · simp [hk]
    rw [hcells] at hr
    constructor
    · simp only [execOp, hx, hy, Sem.run_bind, hr, Result.andThen_ok, Int.toNat_natCast, Sem.run_pure]
    · simp only [execOp, hx, hy, Sem.events_bind, hr, hev, Result.evThen_ok, Sem.events_pure]
  refine SL_core hq (Nat.le_of_ble_eq_true rfl) hg hd fun w hw => ⟨_, _, _, (key w).1, by rw [(key w).2]; exact Kept.alloc _ _ _ _, hw.alloc e _, fun _ => List.sublist_cons_self _ _, .inl rfl, h _⟩

/-! ### append -/
theorem run_append_none (w : World) (base : Nat) (t ty e : TypeId) (i : TypeInfo) (size : Nat) (ht : P.underlying t = some (.slice e)) (hi : P.info? e = some i)
    (v : Value) (m : Nat) (xs : List Value) (hown : w.ownsRow base e size v m xs) (c : Nat) : (Builtin.append_ #[t, t] ty #[v, .slice none 0 c]).run P w = .ok v w := by
  rcases hown.2 with ⟨rfl, rfl⟩ | ⟨g, cap, cur, rfl, _, _, hnc, _⟩
  · simp [Builtin.append_, run_underlying ht, sizeOf, typeInfo, hi, Builtin.lenOf, Builtin.firstCells]
  · simp [Builtin.append_, run_underlying ht, sizeOf, typeInfo, hi, Builtin.lenOf, Builtin.firstCells, hnc, storeCells]

theorem grown_os {w w' : World} {r : Option Nat} (h : w.grownBy w' r) : w'.os = w.os := h.os

theorem run_append_zero {w : World} {t ty e : TypeId} {i : TypeInfo} {z : Value} (ht : P.underlying t = some (.slice e)) (hi : P.info? e = some i) (hz : i.zero = some z)
    (b : Addr) (B : Option Addr) (m d : Nat) (news : List Value) (hl : news.length = m * i.size) (hB : B = none → m = 0) (hnews : ∀ a, B = some a → ∀ j u, news[j]? = some u → w.cell? (a.add j) = some u)
    (h63 : (m : Int) ≤ 9223372036854775807) (hb : m * i.bytes ≤ 140737488355328) (hm : 0 < m) :
    (Builtin.append_ #[t, t] ty #[.slice (some b) 0 0, .slice B m d]).run P w = (Builtin.append_ #[t, t] ty #[.slice none 0 0, .slice B m d]).run P w := by
  cases B with
  | none => have := hB rfl; omega
  | some a =>
    have h1 := run_append_nil (P := P) w t ty e i z ht hi hz a m d news hl (hnews a rfl) hm h63 (by omega)
    have h2 := run_append_grow (P := P) w t ty e i z ht hi hz b 0 0 [] (by simp) (by simp) a m d news hl (hnews a rfl) (by omega) (by simpa using h63) (growslice_fits (by omega) (by simpa using hb))
    rw [h1, h2]
    simp


/-- Nothing appended: nothing listed. -/
theorem events_append_zero {w : World} {t ty e : TypeId} {i : TypeInfo} (ht : P.underlying t = some (.slice e)) (hi : P.info? e = some i) (A B : Option Addr) (k c d : Nat) (hkc : k ≤ c) (hB : B = none ∨ ∃ a, B = some a) :
    (Builtin.append_ #[t, t] ty #[.slice A k c, .slice B 0 d]).events P w #[] = #[] := by
  rcases hB with rfl | ⟨a, rfl⟩
  · cases A <;> simp [Builtin.append_, run_underlying ht, sizeOf, typeInfo, hi, Builtin.lenOf, Builtin.firstCells, hkc, storeCells]
  · cases A <;> simp [Builtin.append_, run_underlying ht, sizeOf, typeInfo, hi, Builtin.lenOf, Builtin.firstCells, hkc, storeCells, loadCells, loadCellsFrom]

/-- Appended to a slice of no room that points somewhere. -/
theorem events_append_zero' {w : World} {t ty e : TypeId} {i : TypeInfo} {z : Value} (ht : P.underlying t = some (.slice e)) (hi : P.info? e = some i) (hz : i.zero = some z)
    (a0 a : Addr) (m d : Nat) (news : List Value) (hl : news.length = m * i.size) (hnews : ∀ j u, news[j]? = some u → w.cell? (a.add j) = some u)
    (h63 : (m : Int) ≤ 9223372036854775807) (hb : m * i.bytes ≤ 140737488355328) (hm : 0 < m) :
    ∀ ev ∈ (Builtin.append_ #[t, t] ty #[.slice (some a0) 0 0, .slice (some a) m d]).events P w #[], (∃ ad, ev.loc = .cell ad ∧ ev.write = false ∧ ad.block = a.block) ∨ ∃ m, ev = ⟨.mark m, false, true⟩ ∧ Conc.Neutral m := by
  intro ev hev
  have hm' : ¬ m = 0 := by omega
  have h63' : ¬ (9223372036854775807 < (m : Int)) := by omega
  have h48' : ¬ (281474976710656 < Builtin.nextslicecap m 0 * i.bytes) := by rw [nextslicecap_zero (by omega)]; omega
  have hf := run_firstCells_some (P := P) w.drew i.size m a m d news hl (by simpa using hnews)
  have src : ∀ (w' : World), (∀ ad, w'.cell? ad = w.cell? ad) → ∀ a' l' c', Value.slice (some a) m d = .slice (some a') l' c' → a'.block = a.block ∧ ∀ j, j < m * i.size → (w'.cell? (a'.add j)).isSome := by
    intro w' hw' a' l' c' e
    cases e
    exact ⟨rfl, fun j hj => by rw [hw']; exact isSome_of_list hnews (by rw [hl]; exact hj)⟩
  have z0 : ∀ (sz : Nat) (w' : World) (es : Array Event), (Builtin.firstCells sz 0 (.slice (some a0) 0 0)).events P w' es = es := fun sz w' es => by simp [Builtin.firstCells, loadCells, loadCellsFrom]
  have z1 : ∀ (sz : Nat) (w' : World), (Builtin.firstCells sz 0 (.slice (some a0) 0 0)).run P w' = .ok #[] w' := fun sz w' => by simp [Builtin.firstCells, loadCells, loadCellsFrom]
  simp [Builtin.append_, run_underlying ht, sizeOf, typeInfo, zeroValue, hi, hz, Builtin.lenOf, hm', h63', h48', Question.forced, hf, newRow, z0, z1] at hev
  rcases events_firstCells_in (· = a.block) _ _ _ _ _ (src w.drew (fun _ => rfl)) ev hev with h | ⟨ad, h1, h2, h3⟩
  · exact (Conc.events_askRoom _ _ _ ev h).elim (fun h => by simp at h) .inr
  · exact .inl ⟨ad, h1, h2, h3⟩

/-- 'x = append(x, y...)' on a row of the call's own. -/
theorem SL_append {t : Nat} {e s b : Nat} [hT : SliceT P t e s b] [hE : Enc enc s] {x y : Operand} {A B : Option Addr} {c d : Nat} {l news : List α} {L' : Option Addr → Nat → List Ent}
    (hx : ev σ x = .slice A l.length c) (hy : ev σ y = .slice B news.length d) (hk : Knows W L (Rd B s enc news))
    (hp : ∀ A' c', Put L (rowT e s enc A c l) (rowT e s enc A' c' (l ++ news)) (L' A' c'))
    (hb : (l.length + news.length) * b ≤ 140737488355328) (hmx : l.length + news.length ≤ maxLen)
    (hq : q.chg = true) (hkp : ∀ A' c', q.keeps L → q.keeps (L' A' c')) (hg : wantedσ ops σ ⟨dst, .call { callee := .builtin .append, args := #[x, y], argTypes := #[t, t] }, ty, pos, aft, gd⟩ = true) (hd : dstOk n dst = true)
    (h : ∀ A' c', SL P n W q ops Q rest (updO σ dst (.slice A' (l ++ news).length c')) (L' A' c') γ) :
    SL P n W q ops Q (⟨dst, .call { callee := .builtin .append, args := #[x, y], argTypes := #[t, t] }, ty, pos, aft, gd⟩ :: rest) σ L γ := by
  refine SL_core hq (Nat.le_of_ble_eq_true rfl) hg hd fun w hw => ?_
  obtain ⟨inf, z, h1, h2, h3, h4, h5⟩ := hT.info
  have hm := (hp A c).mem
  have hown := rowT_holds (hw.ok _ hm).holds
  have hlen := flat_length hE.len news
  have hkw := hk w hw
  have hcells : ∀ a, B = some a → ∀ j u, (news.flatMap enc)[j]? = some u → w.cell? (a.add j) = some u := by
    intro a ha j u hu
    obtain ⟨x, hx1, hx2⟩ := flat_at hE.len hT.pos hu
    obtain ⟨b0, off, hB, -, hc⟩ := hkw (by rintro rfl; simp at hx1)
    rw [hB] at ha; cases ha
    have := hc _ _ x u hx1 hx2
    rw [show j / s * s + j % s = j from by rw [Nat.mul_comm]; exact Nat.div_add_mod j s] at this
    rw [Addr.add_lit]; exact this
  have hone : ∀ u ∈ news.flatMap enc, u.oneCell' = true := fun u hu => by obtain ⟨x, _, hx⟩ := List.mem_flatMap.1 hu; exact hE.one x u hx
  have hBn : B = none → news = [] := fun h => by
    rcases Classical.em (news = []) with h' | h'
    · exact h'
    · obtain ⟨_, _, hB, _⟩ := hkw h'; rw [h] at hB; cases hB
  have hop : (execOp (ev σ) ⟨dst, .call { callee := .builtin .append, args := #[x, y], argTypes := #[t, t] }, ty, pos, aft, gd⟩).events P w #[] = (Builtin.append_ #[t, t] ty #[.slice A l.length c, .slice B news.length d]).events P w #[] := by
    simp only [execOp, resolve, invoke, builtin, Sem.events_bind, Sem.run_pure, Sem.events_pure, Result.evThen_ok, List.map_toArray, List.map_cons, List.map_nil, hx, hy]
    cases (Builtin.append_ #[t, t] ty #[.slice A l.length c, .slice B news.length d]).run P w <;> rfl
  have hlc : l.length ≤ c := (rowT_cap hm hw).1
  -- what is listed
  have hevs : ∀ ev ∈ (Builtin.append_ #[t, t] ty #[.slice A l.length c, .slice B news.length d]).events P w #[], (∃ ad, ev.loc = .cell ad ∧ ((ev.write = false ∧ news ≠ [] ∧ ∃ a, B = some a ∧ ad.block = a.block) ∨ (rowT e s enc A c l).S ad.block)) ∨ ∃ m, ev = ⟨.mark m, false, true⟩ ∧ Conc.Neutral m := by
    rcases Classical.em (news = []) with hn | hn
    · intro ev hev
      rw [hn, List.length_nil, events_append_zero hT.ul h1 A B l.length c d hlc (by cases B <;> simp)] at hev
      simp at hev
    · obtain ⟨a, hBa⟩ : ∃ a, B = some a := by
        cases B with
        | none => exact absurd (hBn rfl) hn
        | some a => exact ⟨a, rfl⟩
      subst hBa
      have hpos : 0 < news.length := List.length_pos_iff.2 hn
      rcases hown with ⟨hc0, hl0⟩ | ⟨g, cur, hc0, hA, hgg, h6, h7, h8, h9⟩
      · subst hc0; subst hl0
        cases A with
        | none =>
          intro ev hev
          rcases events_append_where (P := P) w.toWorld 0 t ty e inf z s b hT.ul h1 h2 h3 h4 (.slice none 0 0) 0 [] (by simpa using World.ownsRow_nil w.toWorld 0 e s) a news.length d (news.flatMap enc) hlen (hcells a rfl) hone (by simpa using hmx) (by simpa using hb) ev hev with ⟨ad, x1, ⟨x2, x3⟩ | x2⟩ | h
          · exact .inl ⟨ad, x1, .inl ⟨x2, hn, a, rfl, x3⟩⟩
          · cases x2
          · exact .inr h
        | some a0 =>
          intro ev hev
          rcases events_append_zero' hT.ul h1 h2 a0 a news.length d (news.flatMap enc) (by rw [h3]; exact hlen) (hcells a rfl) (by unfold maxLen at hmx; omega) (by rw [h4]; simpa using hb) hpos ev hev with ⟨ad, x1, x2, x3⟩ | h
          · exact .inl ⟨ad, x1, .inl ⟨x2, hn, a, rfl, x3⟩⟩
          · exact .inr h
      · subst hA
        have ho : w.ownsRow 0 e s (.slice (some ⟨g, 0, none⟩) l.length c) l.length (l.flatMap enc) := ⟨flat_length hE.len l, .inr ⟨g, c, cur, rfl, Nat.zero_le _, hgg, h6, h7, h8, h9⟩⟩
        intro ev hev
        rcases events_append_where (P := P) w.toWorld 0 t ty e inf z s b hT.ul h1 h2 h3 h4 _ _ _ ho a news.length d (news.flatMap enc) hlen (hcells a rfl) hone hmx hb ev hev with ⟨ad, x1, ⟨x2, x3⟩ | x2⟩ | h
        · exact .inl ⟨ad, x1, .inl ⟨x2, hn, a, rfl, x3⟩⟩
        · exact .inl ⟨ad, x1, .inr ⟨hc0, _, rfl, by simpa [Value.ownBlock] using x2.symm⟩⟩
        · exact .inr h
  have hkept : ∀ w' : World, w'.os = w.os → w'.tape = w.tape → w'.output = w.output → w.heap.size ≤ w'.heap.size → (∀ k, k < w.heap.size → ¬ (rowT e s enc A c l).S k → w'.heap[k]? = w.heap[k]?) →
      Kept W.w0.R w.O w w' ((execOp (ev σ) ⟨dst, .call { callee := .builtin .append, args := #[x, y], argTypes := #[t, t] }, ty, pos, aft, gd⟩).events P w #[]) := by
    intro w' k1 k2 k3 k4 k5
    refine ⟨k1, k2, k3, k4, fun k hk hO => k5 k hk fun hS => hO (hw.own _ hm k hS (.inl rfl)), fun ev he => ?_⟩
    rw [hop] at he
    rcases hevs ev he with ⟨ad, x1, ⟨x2, hne, a, rfl, x3⟩ | x2⟩ | h
    · obtain ⟨b0, off, hB, hr, hc⟩ := hkw hne
      cases hB
      obtain ⟨y0, hy0⟩ : ∃ y, news[0]? = some y := ⟨_, List.getElem?_eq_getElem (List.length_pos_iff.2 hne)⟩
      obtain ⟨u0, hu0⟩ : ∃ u, (enc y0)[0]? = some u := ⟨_, List.getElem?_eq_getElem (by rw [hE.len]; exact hT.pos)⟩
      have hlt := cell_lt (hc 0 0 y0 u0 hy0 hu0)
      refine .inl ⟨ad, x1, by rw [x3]; exact Nat.lt_of_lt_of_le hlt k4, ?_⟩
      rw [x3]
      exact hr.elim .inl fun h => .inr (.inr ⟨x2, by rw [← hw.bnd]; exact h⟩)
    · exact .inl ⟨ad, x1, Nat.lt_of_lt_of_le ((hw.ok _ hm).lt _ x2) k4, .inl (hw.own _ hm _ x2 (.inl rfl))⟩
    · exact .inr h
  -- the run on what owns its row
  have key : ∀ (v0 : Value), w.ownsRow 0 e s v0 l.length (l.flatMap enc) → ∃ v' w', (Builtin.append_ #[t, t] ty #[v0, .slice B news.length d]).run P w = .ok v' w' ∧
      w'.ownsRow 0 e s v' (l.length + news.length) (l.flatMap enc ++ news.flatMap enc) ∧ w.grownBy w' v0.ownBlock ∧ (v'.ownBlock = v0.ownBlock ∨ v'.ownBlock = some w.heap.size) := by
    intro v0 ho
    cases B with
    | none =>
      have hn := hBn rfl
      subst hn
      exact ⟨_, w.toWorld, by simpa using run_append_none w.toWorld 0 t ty e inf s hT.ul h1 _ _ _ ho d, by simpa using ho, World.grownBy.refl w.toWorld _, .inl rfl⟩
    | some a =>
      obtain ⟨v', w', hr, ho', hgr, -, hbk⟩ := run_append_own_at (P := P) w.toWorld 0 t ty e inf z s b hT.ul h1 h2 h3 h4 h5 hT.pos _ _ _ ho a news.length d (news.flatMap enc) hlen (hcells a rfl) hone hmx hb (Nat.zero_le _)
      exact ⟨v', w', hr, ho', hgr, hbk⟩
  have fin : ∀ (v0 v' : Value) (w' : World), (Builtin.append_ #[t, t] ty #[.slice A l.length c, .slice B news.length d]).run P w = .ok v' w' → w'.ownsRow 0 e s v' (l.length + news.length) (l.flatMap enc ++ news.flatMap enc) →
      w.grownBy w' v0.ownBlock → (v'.ownBlock = v0.ownBlock ∨ v'.ownBlock = some w.heap.size) → (∀ k, v0.ownBlock = some k → (rowT e s enc A c l).S k) →
      ∃ v w' L'', (execOp (ev σ) ⟨dst, .call { callee := .builtin .append, args := #[x, y], argTypes := #[t, t] }, ty, pos, aft, gd⟩).run P w = .ok (.value v) w' ∧ Kept W.w0.R w.O w w' ((execOp (ev σ) ⟨dst, .call { callee := .builtin .append, args := #[x, y], argTypes := #[t, t] }, ty, pos, aft, gd⟩).events P w #[]) ∧ Mem W (w.to w') L'' ∧
        (kindOf (Oper.op ⟨dst, .call { callee := .builtin .append, args := #[x, y], argTypes := #[t, t] }, ty, pos, aft, gd⟩) = 2 → L.Sublist L'') ∧ (kindOf (Oper.op ⟨dst, .call { callee := .builtin .append, args := #[x, y], argTypes := #[t, t] }, ty, pos, aft, gd⟩) = 2 ∨ (q.keeps L → q.keeps L'')) ∧ SL P n W q ops Q rest (updO σ (Oper.dst ⟨dst, .call { callee := .builtin .append, args := #[x, y], argTypes := #[t, t] }, ty, pos, aft, gd⟩) v) L'' γ := by
    intro v0 v' w' hr ho hgr hbk hS0
    obtain ⟨A', c', hv', hO⟩ : ∃ A' c', v' = .slice A' (l ++ news).length c' ∧ Own e s enc A' c' (l ++ news) w' := by
      rcases ho.2 with ⟨rfl, h0⟩ | ⟨g, cap, cur, rfl, _, hgg, h6, h7, h8, h9⟩
      · exact ⟨none, 0, by rw [List.length_append, h0], .inl ⟨rfl, List.eq_nil_of_length_eq_zero (by rw [List.length_append, h0])⟩⟩
      · refine ⟨some ⟨g, 0, none⟩, cap, by rw [List.length_append], ?_⟩
        rcases Nat.eq_zero_or_pos cap with h0 | h0
        · exact .inl ⟨h0, List.eq_nil_of_length_eq_zero (by rw [List.length_append]; omega)⟩
        · exact .inr ⟨g, cur, h0, rfl, hgg, by rw [List.length_append]; exact h6, h7, h8, by rw [List.length_append, List.flatMap_append]; exact h9⟩
    subst hv'
    refine ⟨_, w', _, ?_, hkept w' hgr.os hgr.tape hgr.output hgr.size (fun k hk hnk => hgr.block k hk (fun e => hnk (hS0 k e.symm))), ?_, fun h2 => (by cases h2), .inr (hkp A' c'), h A' c'⟩
    · simp only [execOp, resolve, List.map_toArray, List.map_cons, List.map_nil, hx, hy, Sem.run_bind, Sem.run_pure, Result.andThen_ok, invoke, builtin, hr]
    · have hown' : ∀ k, (rowT e s enc A' c' (l ++ news)).S k → (Value.slice A' (l ++ news).length c').ownBlock = some k := by
        rintro k ⟨_, a, rfl, rfl⟩; rfl
      have hS : ∀ k, (rowT e s enc A' c' (l ++ news)).S k → (rowT e s enc A c l).S k ∨ w.heap.size ≤ k := by
        intro k hk
        have hk' := hown' k hk
        rcases hbk with hbk | hbk
        · left; exact hS0 k (by rw [← hbk]; exact hk')
        · right; rw [hbk] at hk'; cases hk'; omega
      refine hw.put (hp A' c') hgr.os hgr.tape hgr.output hgr.size (fun k hk hnk => hgr.block k hk (fun e => hnk (hS0 k e.symm))) ⟨fun k hk => ?_, hO⟩ hS (fun _ => rfl)
      exact (ho.lt k (hown' k hk)).2
  rcases hown with ⟨hc0, hl0⟩ | ⟨g, cur, hc0, hA, hgg, h6, h7, h8, h9⟩
  · subst hc0; subst hl0
    have hnil : w.ownsRow 0 e s (.slice none 0 0) ([] : List α).length (([] : List α).flatMap enc) := World.ownsRow_nil w.toWorld 0 e s
    cases A with
    | none =>
      obtain ⟨v', w', hr, ho, hgr, hbk⟩ := key _ hnil
      exact fin (.slice none 0 0) v' w' hr ho hgr hbk (fun k hk => by cases hk)
    | some a0 =>
      rcases Nat.eq_zero_or_pos news.length with hn0 | hn0
      · have hn : news = [] := List.eq_nil_of_length_eq_zero hn0
        have hr : (Builtin.append_ #[t, t] ty #[.slice (some a0) 0 0, .slice B news.length d]).run P w = .ok (.slice (some a0) 0 0) w := by
          rw [hn]
          cases B with
          | none => simp [Builtin.append_, run_underlying hT.ul, sizeOf, typeInfo, h1, Builtin.lenOf, Builtin.firstCells, storeCells]
          | some b0 => simp [Builtin.append_, run_underlying hT.ul, sizeOf, typeInfo, h1, Builtin.lenOf, Builtin.firstCells, storeCells, loadCells, loadCellsFrom]
        have hl : (([] : List α) ++ news).length = 0 := by rw [hn]; rfl
        refine ⟨.slice (some a0) (([] : List α) ++ news).length 0, w.toWorld, _, ?_, hkept w.toWorld rfl rfl rfl (Nat.le_refl _) (fun _ _ _ => rfl), ?_, fun h2 => (by cases h2), .inr (hkp (some a0) 0), h (some a0) 0⟩
        · rw [hl]
          simp only [execOp, resolve, List.map_toArray, List.map_cons, List.map_nil, hx, hy, Sem.run_bind, Sem.run_pure, Result.andThen_ok, invoke, builtin, List.length_nil, hr]
        · refine hw.put (hp (some a0) 0) rfl rfl rfl (Nat.le_refl _) (fun _ _ _ => rfl) ⟨fun k hk => absurd hk.1 (by omega), .inl ⟨rfl, by rw [hn]; rfl⟩⟩ (fun k hk => absurd hk.1 (by omega)) (fun _ => rfl)
      · obtain ⟨v', w', hr, ho, hgr, hbk⟩ := key _ hnil
        have hz := run_append_zero (P := P) (w := w.toWorld) (ty := ty) hT.ul h1 h2 a0 B news.length d (news.flatMap enc) (by rw [h3]; exact hlen) (fun h => by rw [hBn h] at hn0; simp at hn0) hcells (by unfold maxLen at hmx; omega)
          (by rw [h4]; have hb' := hb; simp only [List.length_nil, Nat.zero_add] at hb'; exact hb') hn0
        exact fin (.slice none 0 0) v' w' (hz.trans hr) ho hgr hbk (fun k hk => by cases hk)
  · subst hA
    have ho : w.ownsRow 0 e s (.slice (some ⟨g, 0, none⟩) l.length c) l.length (l.flatMap enc) := ⟨flat_length hE.len l, .inr ⟨g, c, cur, rfl, Nat.zero_le _, hgg, h6, h7, h8, h9⟩⟩
    obtain ⟨v', w', hr, ho', hgr, hbk⟩ := key _ ho
    exact fin _ v' w' hr ho' hgr hbk (fun k hk => ⟨hc0, _, rfl, by simpa [Value.ownBlock] using hk⟩)


/-- '[]T{}': a row without room. -/
theorem SL_buildEmpty {t : Nat} {e s b : Nat} [hT : SliceT P t e s b] (enc : α → List Value)
    (hq : q.chg = true) (hg : wantedσ ops σ ⟨dst, .buildSlice t 0 #[], ty, pos, aft, gd⟩ = true) (hd : dstOk n dst = true)
    (h : ∀ A, SL P n W q ops Q rest (updO σ dst (.slice A ([] : List α).length 0)) (rowT e s enc A 0 ([] : List α) :: L) γ) :
    SL P n W q ops Q (⟨dst, .buildSlice t 0 #[], ty, pos, aft, gd⟩ :: rest) σ L γ := by
  have key : ∀ w : World, (execOp (ev σ) ⟨dst, .buildSlice t 0 #[], ty, pos, aft, gd⟩).run P w = .ok (.value (.slice (some ⟨w.heap.size, 0, none⟩) 0 0)) (w.alloc (.cells #[] e)) ∧ (execOp (ev σ) ⟨dst, .buildSlice t 0 #[], ty, pos, aft, gd⟩).events P w #[] = #[] := by
    intro w
    have hsz := run_size (P := P) (t := t) w
    simp only [execOp, Instr.buildSlice, Sem.run_bind, run_underlying hT.ul, Result.andThen_ok, hsz, Sem.events_bind, Result.evThen_ok, events_underlying, events_sizeOf]
    simp [newRow, Instr.fill]
    rw [show (Array.map (fun _ => (default : Value)) (Array.range 0)) = #[] from by apply Array.eq_empty_of_size_eq_zero; simp]
  refine SL_core hq (Nat.le_of_ble_eq_true rfl) hg hd fun w hw => ⟨.slice (some ⟨w.heap.size, 0, none⟩) 0 0, w.alloc (.cells #[] e), rowT e s enc (some ⟨w.heap.size, 0, none⟩) 0 ([] : List α) :: L, (key w).1, by rw [(key w).2]; exact Kept.alloc _ _ _ _, ?_, fun _ => List.sublist_cons_self _ _, .inl rfl, h _⟩
  exact (Mem.tail (hw.alloc e [])).row_nil e s enc _

/-- A variable that is declared and holds no slice yet: a row without room. -/
theorem SC.row_nil {c : Code} (e s : Nat) (enc : α → List Value) (A : Option Addr) (h : SC P n W c Q σ (rowT e s enc A 0 ([] : List α) :: L) γ) : SC P n W c Q σ L γ :=
  h.weaken fun _ hw => hw.row_nil e s enc A

/-- A piece that says nothing. -/
def triv : Ent := ⟨fun _ => False, fun _ => True, fun _ _ _ h => h, true⟩
theorem Mem.triv {W : WR} {w : WO} (hw : Mem W w L) : Mem W w (triv :: L) := by
  refine (hw.grow (es := [Go.Proofs.Ytnmhgfeglfcbgaa.triv]) rfl rfl rfl (Nat.le_refl _) (fun _ _ => rfl) ?_ ?_ (by simp)).toSelf
  · intro x hx
    have hx : x = Go.Proofs.Ytnmhgfeglfcbgaa.triv := by simpa using hx
    subst hx
    exact ⟨fun _ h => h.elim, trivial⟩
  · intro x hx k hk
    have hx : x = Go.Proofs.Ytnmhgfeglfcbgaa.triv := by simpa using hx
    subst hx
    exact hk.elim
theorem SC.triv {c : Code} (h : SC P n W c Q σ (triv :: L) γ) : SC P n W c Q σ L γ := h.weaken fun _ hw => hw.triv
end

section
variable {P : Program} {n : Nat} {W : Bs P} {q : Md} {Q : Exit → St → List Ent → W.Γ → Prop} {σ : St} {L : List Ent} {γ : W.Γ} {ops : Array Oper} {rest : List Oper}
  {dst : Option Nat} {ty : TypeId} {pos : String} {aft : Array Edge} {gd : Option (Nat × Bool)} {α : Type} {enc : α → List Value}

theorem SL_max {x y : Operand} {t t2 : TypeId} {a b : Int} (hx : ev σ x = .int .i64 a) (hy : ev σ y = .int .i64 b)
    (hg : wantedσ ops σ ⟨dst, .call { callee := .builtin .max, args := #[x, y], argTypes := #[t, t2] }, ty, pos, aft, gd⟩ = true) (hd : dstOk n dst = true)
    (h : SL P n W q ops Q rest (updO σ dst (.int .i64 (max a b))) L γ) :
    SL P n W q ops Q (⟨dst, .call { callee := .builtin .max, args := #[x, y], argTypes := #[t, t2] }, ty, pos, aft, gd⟩ :: rest) σ L γ := by
  refine SL_valW _ (Nat.le_of_ble_eq_true rfl) hg hd (fun w => ?_) h
  constructor
  · simp [execOp, resolve, invoke, builtin, hx, hy, Lib.run_max_ints]
  · simp [execOp, resolve, invoke, builtin, hx, hy, Builtin.max_, Builtin.max2]
theorem SL_min {x y : Operand} {t t2 : TypeId} {a b : Int} (hx : ev σ x = .int .i64 a) (hy : ev σ y = .int .i64 b)
    (hg : wantedσ ops σ ⟨dst, .call { callee := .builtin .min, args := #[x, y], argTypes := #[t, t2] }, ty, pos, aft, gd⟩ = true) (hd : dstOk n dst = true)
    (h : SL P n W q ops Q rest (updO σ dst (.int .i64 (min a b))) L γ) :
    SL P n W q ops Q (⟨dst, .call { callee := .builtin .min, args := #[x, y], argTypes := #[t, t2] }, ty, pos, aft, gd⟩ :: rest) σ L γ := by
  refine SL_valW _ (Nat.le_of_ble_eq_true rfl) hg hd (fun w => ?_) h
  constructor
  · simp [execOp, resolve, invoke, builtin, hx, hy, Lib.run_min_ints]
  · simp [execOp, resolve, invoke, builtin, hx, hy, Builtin.min_, Builtin.min2]

theorem SL_nilCheck {x : Operand} {a : Addr} (hx : ev σ x = .pointer (some a))
    (hg : wantedσ ops σ ⟨dst, .nilCheck x, ty, pos, aft, gd⟩ = true) (hd : dstOk n dst = true)
    (h : SL P n W q ops Q rest (updO σ dst (.pointer (some a))) L γ) : SL P n W q ops Q (⟨dst, .nilCheck x, ty, pos, aft, gd⟩ :: rest) σ L γ := by
  refine SL_valW _ (Nat.le_of_ble_eq_true rfl) hg hd (fun w => ?_) h
  constructor <;> simp [execOp, hx]

/-- What is left over. -/
theorem SL_rem {x y : Operand} {t t2 : TypeId} {k : IntKind} {a b : Int} (hx : ev σ x = .int k a) (hy : ev σ y = .int k b) (hb : b ≠ 0)
    (hg : wantedσ ops σ ⟨dst, .binOp .rem t x y t2, ty, pos, aft, gd⟩ = true) (hd : dstOk n dst = true)
    (h : SL P n W q ops Q rest (updO σ dst (.int k (a.tmod b))) L γ) : SL P n W q ops Q (⟨dst, .binOp .rem t x y t2, ty, pos, aft, gd⟩ :: rest) σ L γ := by
  refine SL_valW _ (Nat.le_of_ble_eq_true rfl) hg hd (fun w => ?_) h
  constructor <;> simp [execOp, hx, hy, go_sem, hb]

/-- An interface made of a value. -/
theorem SL_makeIface {x : Operand} {t : TypeId} {v : Value} (hr : ∀ w, (execOp (ev σ) ⟨dst, .makeInterface t x, ty, pos, aft, gd⟩).run P w = .ok (.value (.iface t v)) w ∧ (execOp (ev σ) ⟨dst, .makeInterface t x, ty, pos, aft, gd⟩).events P w #[] = #[])
    (hg : wantedσ ops σ ⟨dst, .makeInterface t x, ty, pos, aft, gd⟩ = true) (hd : dstOk n dst = true)
    (h : SL P n W q ops Q rest (updO σ dst (.iface t v)) L γ) : SL P n W q ops Q (⟨dst, .makeInterface t x, ty, pos, aft, gd⟩ :: rest) σ L γ :=
  SL_valW _ (Nat.le_of_ble_eq_true rfl) hg hd hr h

/-! ### Parts of slices -/
def cutA (A : Option Addr) (c lo s : Nat) : Option Addr := if c = lo then A else A.map (·.add (lo * s))
theorem cutA_some {g c lo s : Nat} (h : lo < c) : cutA (some ⟨g, 0, none⟩) c lo s = some ⟨g, lo * s, none⟩ := by
  unfold cutA
  rw [if_neg (by omega)]
  simp [Addr.add_lit]

theorem flat_take {s : Nat} (h : ∀ x, (enc x).length = s) : ∀ (l : List α) (i : Nat), (l.take i).flatMap enc = (l.flatMap enc).take (i * s)
  | [], i => by simp
  | x :: l, 0 => by simp
  | x :: l, i + 1 => by
    rw [List.take_succ_cons, List.flatMap_cons, List.flatMap_cons, flat_take h l i, Nat.add_mul, Nat.one_mul, List.take_append, h, List.take_of_length_le (l := enc x) (by rw [h]; omega)]
    congr 2
    omega

/-- 'x[:h]', wherever x lies. -/
theorem SL_sliceTo {x hi : Operand} {t : TypeId} {A : Option Addr} {m c h : Nat} {e s b : Nat} [hT : SliceT P t e s b]
    (hx : ev σ x = .slice A m c) (hi' : ev σ hi = .int .i64 (h : Int)) (hh : h ≤ c)
    (hg : wantedσ ops σ ⟨dst, .slice t x none (some hi) none, ty, pos, aft, gd⟩ = true) (hd : dstOk n dst = true)
    (H : SL P n W q ops Q rest (updO σ dst (.slice A h c)) L γ) :
    SL P n W q ops Q (⟨dst, .slice t x none (some hi) none, ty, pos, aft, gd⟩ :: rest) σ L γ := by
  refine SL_val _ rfl hg hd (fun w hw => ?_) H
  have hsz := run_size (P := P) (t := t) w.toWorld
  have hA : (if c = 0 then A else A.map (·.add (0 * s))) = A := by
    split
    · rfl
    · cases A with
      | none => rfl
      | some a => simp [Addr.add]
  constructor
  · simp only [execOp, hx, hi', Option.map_some, Option.map_none, Instr.sliceAt, Instr.slice, Sem.run_bind, run_underlying hT.ul, Result.andThen_ok, (bounds_h hh _).1, hsz, Sem.run_pure]
    rw [hA]
    rfl
  · have he : (execOp (ev σ) ⟨dst, .slice t x none (some hi) none, ty, pos, aft, gd⟩).events P w #[] = #[] := by
      simp only [execOp, hx, hi', Option.map_some, Option.map_none, Instr.sliceAt, Instr.slice, Sem.run_bind, run_underlying hT.ul, Result.andThen_ok, (bounds_h hh _).1, (bounds_h hh _).2, hsz, Sem.run_pure, Sem.events_bind, Result.evThen_ok, events_underlying, events_sizeOf, Sem.events_pure]
    rw [he]; exact Kept.idle _ _ _

/-- 'x[l:]', wherever x lies. -/
theorem SL_sliceFrom {x lo : Operand} {t : TypeId} {A : Option Addr} {m c l : Nat} {e s b : Nat} [hT : SliceT P t e s b]
    (hx : ev σ x = .slice A m c) (hlo : ev σ lo = .int .i64 (l : Int)) (hl : l ≤ m)
    (hg : wantedσ ops σ ⟨dst, .slice t x (some lo) none none, ty, pos, aft, gd⟩ = true) (hd : dstOk n dst = true)
    (H : SL P n W q ops Q rest (updO σ dst (.slice (cutA A c l s) (m - l) (c - l))) L γ) :
    SL P n W q ops Q (⟨dst, .slice t x (some lo) none none, ty, pos, aft, gd⟩ :: rest) σ L γ := by
  refine SL_val _ rfl hg hd (fun w hw => ?_) H
  have hsz := run_size (P := P) (t := t) w.toWorld
  constructor
  · simp only [execOp, hx, hlo, Option.map_some, Option.map_none, Instr.sliceAt, Instr.slice, Sem.run_bind, run_underlying hT.ul, Result.andThen_ok, (bounds_l hl _).1, hsz, Sem.run_pure]
    rfl
  · have he : (execOp (ev σ) ⟨dst, .slice t x (some lo) none none, ty, pos, aft, gd⟩).events P w #[] = #[] := by
      simp only [execOp, hx, hlo, Option.map_some, Option.map_none, Instr.sliceAt, Instr.slice, Sem.run_bind, run_underlying hT.ul, Result.andThen_ok, (bounds_l hl _).1, (bounds_l hl _).2, hsz, Sem.run_pure, Sem.events_bind, Result.evThen_ok, events_underlying, events_sizeOf, Sem.events_pure]
    rw [he]; exact Kept.idle _ _ _

theorem Own.take {s : Nat} [_hE : Enc enc s] {e : Nat} {A : Option Addr} {c : Nat} {l : List α} {w : World} (h : Own e s enc A c l w) (i : Nat) : Own e s enc A c (l.take i) w := by
  rcases h with ⟨h0, rfl⟩ | ⟨g, cur, hc0, rfl, hg, h6, h7, h8, h9⟩
  · exact .inl ⟨h0, by simp⟩
  · refine .inr ⟨g, cur, hc0, rfl, hg, by rw [List.length_take]; omega, h7, h8, ?_⟩
    rw [flat_take _hE.len, ← h9, List.take_take, List.length_take]
    congr 1
    rcases Nat.le_total i l.length with h | h
    · rw [Nat.min_eq_left h, Nat.min_eq_left (Nat.mul_le_mul_right s h)]
    · rw [Nat.min_eq_right h, Nat.min_eq_right (Nat.mul_le_mul_right s h)]

/-- The back of a row given up. -/
theorem Mem.row_take {W : WR} {s : Nat} [_hE : Enc enc s] {e : Nat} {A : Option Addr} {c : Nat} {l : List α} {w : WO} {L' : List Ent} (hw : Mem W w L) (i : Nat) (hp : Put L (rowT e s enc A c l) (rowT e s enc A c (l.take i)) L') : Mem W w L' := by
  have hin := hw.ok _ hp.mem
  refine (hw.put hp rfl rfl rfl (Nat.le_refl _) (fun _ _ _ => rfl) ⟨fun k hk => hin.lt k ?_, ?_⟩ (fun k hk => .inl ?_) (fun _ => rfl)).toSelf
  · exact hk
  · exact (rowT_holds hin.holds).take i
  · exact hk

/-! ### Stores into rows -/
theorem flat_set {s : Nat} (hlen : ∀ x, (enc x).length = s) : ∀ (l : List α) (i j : Nat) (y y' : α) (v : Value), l[i]? = some y → enc y' = (enc y).set j v → j < s → (l.set i y').flatMap enc = (l.flatMap enc).set (i * s + j) v
  | [], i, j, y, y', v, hi, _, _ => by simp at hi
  | x :: r, 0, j, y, y', v, hi, hy, hj => by
    have hx : x = y := by simpa using hi
    subst hx
    rw [List.set_cons_zero, List.flatMap_cons, List.flatMap_cons, hy, Nat.zero_mul, Nat.zero_add, List.set_append, if_pos (by rw [hlen]; exact hj)]
  | x :: r, i + 1, j, y, y', v, hi, hy, hj => by
    have ih := flat_set hlen r i j y y' v (by simpa using hi) hy hj
    rw [List.set_cons_succ, List.flatMap_cons, List.flatMap_cons, ih, List.set_append, if_neg (by rw [hlen, Nat.add_mul]; omega), hlen]
    congr 2
    rw [Nat.add_mul]; omega

theorem flat_setA {s : Nat} (hlen : ∀ x, (enc x).length = s) : ∀ (l : List α) (i : Nat) (y' : α), i < l.length → (l.set i y').flatMap enc = (l.flatMap enc).take (i * s) ++ enc y' ++ (l.flatMap enc).drop (i * s + s)
  | [], i, y', h => by simp at h
  | x :: r, 0, y', _ => by
    rw [List.set_cons_zero, List.flatMap_cons, List.flatMap_cons, Nat.zero_mul, List.take_zero, List.nil_append, Nat.zero_add]
    congr 1
    rw [List.drop_append, hlen, List.drop_eq_nil_of_le (by rw [hlen]; omega), Nat.sub_self, List.drop_zero, List.nil_append]
  | x :: r, i + 1, y', h => by
    have ih := flat_setA hlen r i y' (by simpa using h)
    rw [List.set_cons_succ, List.flatMap_cons, List.flatMap_cons, ih, Nat.add_mul, Nat.one_mul]
    rw [List.take_append, hlen, List.take_of_length_le (l := enc x) (by rw [hlen]; omega), List.drop_append, hlen, List.drop_eq_nil_of_le (as := enc x) (by rw [hlen]; omega), List.nil_append]
    rw [show i * s + s - s = i * s from by omega, show i * s + s + s - s = i * s + s from by omega]
    simp only [List.append_assoc]

/-- Cells stored into a row's block. -/
theorem rowStore {W : WR} {w : WO} {s e : Nat} {A : Option Addr} {c g : Nat} {l l' : List α} {cur : Array Value} {L L' : List Ent} (hw : Mem W w L) (hp : Put L (rowT e s enc A c l) (rowT e s enc A c l') L')
    (hc0 : 0 < c) (hA : A = some ⟨g, 0, none⟩) (hgg : w.heap[g]? = some (.cells cur e (0, 0))) (vs : List Value) (o : Nat) (hl : o + vs.length ≤ cur.size) (h1 : ∀ v ∈ vs, v.oneCell' = true) (h7 : c ≤ maxLen) (h8 : cur.size = c * s)
    (hlen : l'.length ≤ c) (h9 : (cur.toList.take o ++ vs ++ cur.toList.drop (o + vs.length)).take (l'.length * s) = l'.flatMap enc) :
    (storeCells ⟨g, o, none⟩ vs).run P w = .ok () (w.setRow g (cur.toList.take o ++ vs ++ cur.toList.drop (o + vs.length)).toArray) ∧
    (∀ es, (∀ ev ∈ es, ev ∈ (storeCells ⟨g, o, none⟩ vs).events P w #[]) → Kept W.R w.O w (w.setRow g (cur.toList.take o ++ vs ++ cur.toList.drop (o + vs.length)).toArray) es) ∧
    Mem W (w.to (w.setRow g (cur.toList.take o ++ vs ++ cur.toList.drop (o + vs.length)).toArray)) L' := by
  subst hA
  have hlt : g < w.heap.size := (Array.getElem?_eq_some_iff.1 hgg).1
  have hst := run_storeCells_at P g o e vs 0 cur w hgg (by simpa using hl) h1
  simp only [Nat.add_zero] at hst
  have hO : w.O g := hw.own _ hp.mem g ⟨hc0, _, rfl, rfl⟩ (.inl rfl)
  refine ⟨hst, fun es hes => Kept.setRow hO hlt fun ev he => ?_, ?_⟩
  · rcases events_storeCells_at (P := P) g o e vs 0 cur w #[] hgg (by simpa using hl) h1 ev (hes ev he) with h | h
    · simp at h
    · exact h
  · refine hw.put hp rfl rfl rfl (by simp [World.setRow]) (fun k _ hk => setRow_other w.toWorld g k _ (fun e => hk ?_)) ⟨fun k hk => ?_, ?_⟩ (fun k hk => .inl ?_) (fun _ => rfl)
    · subst e
      exact ⟨hc0, _, rfl, rfl⟩
    · obtain ⟨_, a, ha, rfl⟩ := hk
      cases ha
      simpa [World.setRow] using hlt
    · refine .inr ⟨g, _, hc0, rfl, setRow_heap w.toWorld g cur _ e (0, 0) hgg, hlen, h7, ?_, by simpa using h9⟩
      have hcl : cur.toList.length = cur.size := by simp
      simp only [List.size_toArray, List.length_append, List.length_take, List.length_drop, hcl]
      omega
    · exact hk

/-- A store into one cell of an element of a slice of the call's own. -/
theorem SL_setRow {a x : Operand} {t : Nat} [hO : OneT P t] {A : Option Addr} {c s e i j : Nat} [hE : Enc enc s] {l : List α} {y y' : α} {v : Value} {L' : List Ent}
    (ha : ev σ a = .pointer (some (elt A s i j))) (hx : ev σ x = v) (h1 : v.oneCell' = true) (hi : l[i]? = some y) (hy : enc y' = (enc y).set j v) (hj : j < s)
    (hp : Put L (rowT e s enc A c l) (rowT e s enc A c (l.set i y')) L')
    (hq : q.chg = true) (hkp : q.keeps L → q.keeps L') (hg : wantedσ ops σ ⟨none, .store t a x, ty, pos, aft, gd⟩ = true)
    (h : SL P n W q ops Q rest σ L' γ) : SL P n W q ops Q (⟨none, .store t a x, ty, pos, aft, gd⟩ :: rest) σ L γ := by
  have hil : i < l.length := (List.getElem?_eq_some_iff.1 hi).1
  refine SL_coreS hq rfl hg rfl fun w hw => ?_
  rcases rowT_holds (hw.ok _ hp.mem).holds with ⟨_, h0⟩ | ⟨g, cur, hc0, hA, hgg, h6, h7, h8, h9⟩
  · subst h0; simp at hil
  · subst hA
    obtain ⟨inf, h2, h3⟩ := hO.size
    have hcells : v.cells = #[v] := by cases v <;> first | rfl | cases h1
    have hk : i * s + j < l.length * s := by
      have : (i + 1) * s ≤ l.length * s := Nat.mul_le_mul_right s hil
      rw [Nat.add_mul] at this; omega
    have hk2 : i * s + j < cur.size := by
      have : l.length * s ≤ c * s := Nat.mul_le_mul_right s h6
      omega
    have hset : cur.toList.take (i * s + j) ++ [v] ++ cur.toList.drop (i * s + j + [v].length) = cur.toList.set (i * s + j) v := by
      simp [List.set_eq_take_append_cons_drop, hk2]
    obtain ⟨r1, r2, r3⟩ := rowStore (P := P) hw hp hc0 rfl hgg [v] (i * s + j) (by simp; omega) (by simpa using h1) h7 h8 (by rw [List.length_set]; exact h6)
      (by rw [hset, flat_set hE.len l i j y y' v hi hy hj, List.length_set, List.take_set, h9])
    have hel : elt (some ⟨g, 0, none⟩) s i j = ⟨g, i * s + j, none⟩ := by simp [elt]
    rw [hel] at ha
    refine ⟨_, L', ?_, r2 _ fun ev he => ?_, r3, hkp, h⟩
    · simp only [List.length_cons, List.length_nil, Nat.zero_add] at r1 ⊢
      simp [execOp, ha, hx, Instr.storeAt, Instr.sureAddr, storeVar, sizeOf, typeInfo, h2, h3, hcells, r1]
    · simp only [List.length_cons, List.length_nil, Nat.zero_add] at r1
      simpa [execOp, ha, hx, Instr.storeAt, Instr.sureAddr, storeVar, sizeOf, typeInfo, h2, h3, hcells, r1] using he

/-- A store of a whole element into a slice of the call's own. -/
theorem SL_setRowA {a x : Operand} {t : Nat} {A : Option Addr} {c s e i : Nat} [hO : AggT P t s] [hE : Enc enc s] {l : List α} {y' : α} {L' : List Ent}
    (ha : ev σ a = .pointer (some (elt A s i 0))) (hx : ev σ x = .agg (enc y').toArray) (hi : i < l.length)
    (hp : Put L (rowT e s enc A c l) (rowT e s enc A c (l.set i y')) L')
    (hq : q.chg = true) (hkp : q.keeps L → q.keeps L') (hg : wantedσ ops σ ⟨none, .store t a x, ty, pos, aft, gd⟩ = true)
    (h : SL P n W q ops Q rest σ L' γ) : SL P n W q ops Q (⟨none, .store t a x, ty, pos, aft, gd⟩ :: rest) σ L γ := by
  refine SL_coreS hq rfl hg rfl fun w hw => ?_
  rcases rowT_holds (hw.ok _ hp.mem).holds with ⟨_, h0⟩ | ⟨g, cur, hc0, hA, hgg, h6, h7, h8, h9⟩
  · subst h0; simp at hi
  · subst hA
    obtain ⟨inf, h2, h3⟩ := hO.info
    have hk : i * s + s ≤ l.length * s := by
      have : (i + 1) * s ≤ l.length * s := Nat.mul_le_mul_right s hi
      rw [Nat.add_mul] at this; omega
    have hk2 : l.length * s ≤ c * s := Nat.mul_le_mul_right s h6
    have hel := hE.len y'
    have hcl : cur.toList.length = c * s := by simpa using h8
    obtain ⟨r1, r2, r3⟩ := rowStore (P := P) hw hp hc0 rfl hgg (enc y') (i * s) (by rw [hel]; omega) (hE.one y') h7 h8 (by rw [List.length_set]; exact h6)
      (by
        rw [hel, List.length_set, flat_setA hE.len l i y' hi, ← h9]
        simp only [List.append_assoc]
        rw [List.take_append, List.length_take, hcl, Nat.min_eq_left (by omega), List.take_append, hel]
        rw [List.take_of_length_le (l := enc y') (by rw [hel]; omega), List.take_of_length_le (l := cur.toList.take (i * s)) (by rw [List.length_take, hcl]; omega)]
        rw [List.take_take, Nat.min_eq_left (by omega), List.drop_take]
        congr 3
        omega)
    have he' : elt (some ⟨g, 0, none⟩) s i 0 = ⟨g, i * s, none⟩ := by simp [elt]
    rw [he'] at ha
    have hsz : (sizeOf t).run P w = .ok s w := by simp [sizeOf, typeInfo, h2, h3]
    refine ⟨_, L', ?_, r2 _ fun ev he => ?_, r3, hkp, h⟩
    · simp [execOp, ha, hx, Instr.storeAt, Instr.sureAddr, storeVar, hsz, Value.cells, hel, r1]
    · simpa [execOp, ha, hx, Instr.storeAt, Instr.sureAddr, storeVar, hsz, Value.cells, hel, r1] using he

theorem zeroCells_flat (zero : List Value) (N : Nat) (_hpos : 0 < zero.length) : (Builtin.zeroCells zero.toArray N).toList = (List.replicate N zero).flatten := by
  apply List.ext_getElem?
  intro k
  have hfl : ∀ (m k : Nat), (List.replicate m zero).flatten[k]? = if k < m * zero.length then some (zero.toArray[k % zero.length]!) else none := by
    intro m
    induction m with
    | zero => intro k; simp
    | succ m ih =>
      intro k
      rw [List.replicate_succ, List.flatten_cons]
      by_cases hk : k < zero.length
      · rw [List.getElem?_append_left (by omega), if_pos (by rw [Nat.add_mul]; omega), List.getElem?_eq_getElem (by omega)]
        simp [Nat.mod_eq_of_lt hk, hk]
      · rw [List.getElem?_append_right (by omega), ih]
        have e1 : (k - zero.length < m * zero.length) ↔ (k < (m + 1) * zero.length) := by rw [Nat.add_mul]; omega
        have e2 : (k - zero.length) % zero.length = k % zero.length := by
          conv => rhs; rw [show k = (k - zero.length) + zero.length from by omega]
          simp
        simp only [e1, e2]
  rw [hfl]
  simp only [Builtin.zeroCells, Array.toList_map, Array.toList_range, List.getElem?_map, List.size_toArray]
  split <;> rename_i hk
  · simp [hk]
  · simp [hk]

theorem flat_replicate (z : α) (N : Nat) : (List.replicate N z).flatMap enc = (List.replicate N (enc z)).flatten := by
  induction N with
  | zero => rfl
  | succ n ih => rw [List.replicate_succ, List.replicate_succ, List.flatMap_cons, List.flatten_cons, ih]

/-- 'clear(s)' of the back of a row, which is given up. -/
theorem SL_clearCut {x : Operand} {t e s b : Nat} [hT : SliceT P t e s b] {zero : List Value} [hzt : ZeroT P e zero] [hE : Enc enc s] {A : Option Addr} {c lo k d : Nat} {l : List α}
    (hx : ev σ x = .slice (cutA A c lo s) k d) (z : α) (hz : enc z = zero) (hm : rowT e s enc A c l ∈ L) (hlo : l.length ≤ lo) (hk : lo + k ≤ c)
    (hq : q.chg = true) (hg : wantedσ ops σ ⟨none, .call { callee := .builtin .clear, args := #[x], argTypes := #[t] }, ty, pos, aft, gd⟩ = true)
    (h : SL P n W q ops Q rest σ L γ) : SL P n W q ops Q (⟨none, .call { callee := .builtin .clear, args := #[x], argTypes := #[t] }, ty, pos, aft, gd⟩ :: rest) σ L γ := by
  have hd : dstOk n none = true := rfl
  refine SL_core hq (Nat.le_of_ble_eq_true rfl) hg hd fun w hw => ?_
  have hu := run_underlying hT.ul w.toWorld
  have hop : ∀ v, ev σ x = v → (execOp (ev σ) ⟨none, .call { callee := .builtin .clear, args := #[x], argTypes := #[t] }, ty, pos, aft, gd⟩).events P w #[] = (Builtin.clear_ #[t] ty #[v]).events P w #[] := fun v hv => by
    simp only [execOp, resolve, invoke, builtin, Sem.events_bind, Sem.run_pure, Sem.events_pure, Result.evThen_ok, List.map_toArray, List.map_cons, List.map_nil, hv]
    cases (Builtin.clear_ #[t] ty #[v]).run P w <;> rfl
  cases k with
  | zero =>
    have hc : (Builtin.clear_ #[t] ty #[.slice (cutA A c lo s) 0 d]).run P w = .ok (.tuple #[]) w ∧ (Builtin.clear_ #[t] ty #[.slice (cutA A c lo s) 0 d]).events P w #[] = #[] := by
      cases cutA A c lo s <;> constructor <;> simp [Builtin.clear_, hu]
    refine ⟨.tuple #[], w.toWorld, L, ?_, by rw [hop _ hx, hc.2]; exact Kept.idle _ _ _, hw.same, fun h2 => (by cases h2), .inr id, h⟩
    simp only [execOp, resolve, List.map_toArray, List.map_cons, List.map_nil, hx, Sem.run_bind, Sem.run_pure, Result.andThen_ok, invoke, builtin, hc.1]
  | succ N =>
    rcases rowT_holds (hw.ok _ hm).holds with ⟨hc0, _⟩ | ⟨g, cur, hc0, hA, hgg, h6, h7, h8, h9⟩
    · omega
    · subst hA
      rw [cutA_some (by omega)] at hx
      obtain ⟨i', v, g3, g4, g5⟩ := hzt.fact
      have hzv : (zeroValue e).run P w = .ok v w := by simp [zeroValue, typeInfo, g3, g4]
      have hzl : zero.length = s := by rw [← hz, hE.len]
      have hzc := zeroCells_flat zero (N + 1) (by rw [hzl]; exact hT.pos)
      have hlen : ((List.replicate (N + 1) zero).flatten).length = (N + 1) * s := by rw [← hz, ← flat_replicate, flat_length hE.len, List.length_replicate]
      have hle : lo * s + (N + 1) * s ≤ cur.size := by rw [h8, ← Nat.add_mul]; exact Nat.mul_le_mul_right s hk
      have hls : l.length * s ≤ lo * s := Nat.mul_le_mul_right s hlo
      have hone : ∀ u ∈ (List.replicate (N + 1) zero).flatten, u.oneCell' = true := fun u hu => by
        rw [← hz, ← flat_replicate] at hu
        obtain ⟨x, _, hx⟩ := List.mem_flatMap.1 hu
        exact hE.one x u hx
      obtain ⟨pre, post, hL⟩ := List.append_of_mem hm
      have hput : Put L (rowT e s enc (some ⟨g, 0, none⟩) c l) (rowT e s enc (some ⟨g, 0, none⟩) c l) L := ⟨pre, post, hL, hL⟩
      have hcl : cur.toList.length = cur.size := by simp
      obtain ⟨r1, r2, r3⟩ := rowStore (P := P) hw hput hc0 rfl hgg ((List.replicate (N + 1) zero).flatten) (lo * s) (by rw [hlen]; exact hle) hone h7 h8 h6
        (by rw [List.append_assoc, List.take_append_of_le_length (by rw [List.length_take, hcl]; omega), List.take_take, Nat.min_eq_left hls]; exact h9)
      have hc : (Builtin.clear_ #[t] ty #[.slice (some ⟨g, lo * s, none⟩) (N + 1) d]).run P w = .ok (.tuple #[]) (w.setRow g (cur.toList.take (lo * s) ++ (List.replicate (N + 1) zero).flatten ++ cur.toList.drop (lo * s + ((List.replicate (N + 1) zero).flatten).length)).toArray) ∧
          (Builtin.clear_ #[t] ty #[.slice (some ⟨g, lo * s, none⟩) (N + 1) d]).events P w #[] = (storeCells ⟨g, lo * s, none⟩ (List.replicate (N + 1) zero).flatten).events P w #[] := by
        constructor <;> simp [Builtin.clear_, hu, hzv, g5, hzc, r1]
      refine ⟨.tuple #[], _, L, ?_, r2 _ fun ev he => ?_, r3, fun h2 => (by cases h2), .inr id, h⟩
      · simp only [execOp, resolve, List.map_toArray, List.map_cons, List.map_nil, hx, Sem.run_bind, Sem.run_pure, Result.andThen_ok, invoke, builtin, hc.1]
      · rw [hop _ hx, hc.2] at he
        exact he
end

/-! ### Structs compared -/
class EqL (P : Program) (t : Nat) {α : Type} [DecidableEq α] (enc : α → List Value) : Prop where
  guard : ∀ op X Y x y w, (eqGuard op t X Y (.agg (enc x).toArray) (.agg (enc y).toArray)).run P w = .ok () w ∧ (eqGuard op t X Y (.agg (enc x).toArray) (.agg (enc y).toArray)).events P w #[] = #[]
  eql : ∀ x y w, (binOp .eql t (.agg (enc x).toArray) (.agg (enc y).toArray)).run P w = .ok (.bool (decide (x = y))) w ∧ (binOp .eql t (.agg (enc x).toArray) (.agg (enc y).toArray)).events P w #[] = #[]
  neq : ∀ x y w, (binOp .neq t (.agg (enc x).toArray) (.agg (enc y).toArray)).run P w = .ok (.bool (!decide (x = y))) w ∧ (binOp .neq t (.agg (enc x).toArray) (.agg (enc y).toArray)).events P w #[] = #[]

section
variable {P : Program} {n : Nat} {W : Bs P} {q : Md} {Q : Exit → St → List Ent → W.Γ → Prop} {σ : St} {L : List Ent} {γ : W.Γ} {ops : Array Oper} {rest : List Oper}
  {dst : Option Nat} {ty : TypeId} {pos : String} {aft : Array Edge} {gd : Option (Nat × Bool)} {α : Type} [DecidableEq α] {enc : α → List Value}

theorem SL_eqA {x y : Operand} {t t2 : Nat} [hE : EqL P t enc] (a b : α) (hx : ev σ x = .agg (enc a).toArray) (hy : ev σ y = .agg (enc b).toArray)
    (hg : wantedσ ops σ ⟨dst, .binOp .eql t x y t2, ty, pos, aft, gd⟩ = true) (hd : dstOk n dst = true)
    (h : SL P n W q ops Q rest (updO σ dst (.bool (decide (a = b)))) L γ) : SL P n W q ops Q (⟨dst, .binOp .eql t x y t2, ty, pos, aft, gd⟩ :: rest) σ L γ := by
  refine SL_valW _ (Nat.le_of_ble_eq_true rfl) hg hd (fun w => ?_) h
  constructor
  · simp only [execOp, hx, hy, Sem.run_bind, (hE.guard _ _ _ _ _ _).1, Result.andThen_ok, (hE.eql _ _ _).1, Sem.run_pure]
  · simp only [execOp, hx, hy, Sem.events_bind, Sem.run_bind, Result.andThen_ok, (hE.guard _ _ _ _ _ _).1, (hE.guard _ _ _ _ _ _).2, Result.evThen_ok, (hE.eql _ _ _).1, (hE.eql _ _ _).2, Sem.events_pure]

theorem SL_neqA {x y : Operand} {t t2 : Nat} [hE : EqL P t enc] (a b : α) (hx : ev σ x = .agg (enc a).toArray) (hy : ev σ y = .agg (enc b).toArray)
    (hg : wantedσ ops σ ⟨dst, .binOp .neq t x y t2, ty, pos, aft, gd⟩ = true) (hd : dstOk n dst = true)
    (h : SL P n W q ops Q rest (updO σ dst (.bool (!decide (a = b)))) L γ) : SL P n W q ops Q (⟨dst, .binOp .neq t x y t2, ty, pos, aft, gd⟩ :: rest) σ L γ := by
  refine SL_valW _ (Nat.le_of_ble_eq_true rfl) hg hd (fun w => ?_) h
  constructor
  · simp only [execOp, hx, hy, Sem.run_bind, (hE.guard _ _ _ _ _ _).1, Result.andThen_ok, (hE.neq _ _ _).1, Sem.run_pure]
  · simp only [execOp, hx, hy, Sem.events_bind, Sem.run_bind, Result.andThen_ok, (hE.guard _ _ _ _ _ _).1, (hE.guard _ _ _ _ _ _).2, Result.evThen_ok, (hE.neq _ _ _).1, (hE.neq _ _ _).2, Sem.events_pure]
end

/-! ### What stands next (for a tactic's choice) -/
section
variable {P : Program} {n : Nat} {W : Bs P} {q : Md} {Q : Exit → St → List Ent → W.Γ → Prop} {σ : St} {L : List Ent} {γ : W.Γ} {ops : Array Oper} {rest : List Oper} {c : Code}
  {dst : Option Nat} {ty : TypeId} {pos : String} {aft : Array Edge} {gd : Option (Nat × Bool)} {t t2 : TypeId} {x y : Operand} {ol : List Oper}
theorem isSL (h : SL P n W q ops Q ol σ L γ) : SL P n W q ops Q ol σ L γ := h
theorem isSC (h : SC P n W c Q σ L γ) : SC P n W c Q σ L γ := h
theorem isBin {op : BinOp} (h : SL P n W q ops Q (⟨dst, .binOp op t x y t2, ty, pos, aft, gd⟩ :: rest) σ L γ) : SL P n W q ops Q (⟨dst, .binOp op t x y t2, ty, pos, aft, gd⟩ :: rest) σ L γ := h
theorem isLoad (h : SL P n W q ops Q (⟨dst, .load t x, ty, pos, aft, gd⟩ :: rest) σ L γ) : SL P n W q ops Q (⟨dst, .load t x, ty, pos, aft, gd⟩ :: rest) σ L γ := h
theorem isStore (h : SL P n W q ops Q (⟨dst, .store t x y, ty, pos, aft, gd⟩ :: rest) σ L γ) : SL P n W q ops Q (⟨dst, .store t x y, ty, pos, aft, gd⟩ :: rest) σ L γ := h
theorem isFA {f : Nat} (h : SL P n W q ops Q (⟨dst, .fieldAddr t x f, ty, pos, aft, gd⟩ :: rest) σ L γ) : SL P n W q ops Q (⟨dst, .fieldAddr t x f, ty, pos, aft, gd⟩ :: rest) σ L γ := h
theorem isLen (h : SL P n W q ops Q (⟨dst, .call { callee := .builtin .len, args := #[x], argTypes := #[t] }, ty, pos, aft, gd⟩ :: rest) σ L γ) :
    SL P n W q ops Q (⟨dst, .call { callee := .builtin .len, args := #[x], argTypes := #[t] }, ty, pos, aft, gd⟩ :: rest) σ L γ := h
theorem isBox (h : SL P n W q ops Q (⟨dst, .box t x, ty, pos, aft, gd⟩ :: rest) σ L γ) : SL P n W q ops Q (⟨dst, .box t x, ty, pos, aft, gd⟩ :: rest) σ L γ := h
theorem isAlloc (h : SL P n W q ops Q (⟨dst, .alloc t, ty, pos, aft, gd⟩ :: rest) σ L γ) : SL P n W q ops Q (⟨dst, .alloc t, ty, pos, aft, gd⟩ :: rest) σ L γ := h
theorem isMax (h : SL P n W q ops Q (⟨dst, .call { callee := .builtin .max, args := #[x, y], argTypes := #[t, t2] }, ty, pos, aft, gd⟩ :: rest) σ L γ) :
    SL P n W q ops Q (⟨dst, .call { callee := .builtin .max, args := #[x, y], argTypes := #[t, t2] }, ty, pos, aft, gd⟩ :: rest) σ L γ := h
theorem isMin (h : SL P n W q ops Q (⟨dst, .call { callee := .builtin .min, args := #[x, y], argTypes := #[t, t2] }, ty, pos, aft, gd⟩ :: rest) σ L γ) :
    SL P n W q ops Q (⟨dst, .call { callee := .builtin .min, args := #[x, y], argTypes := #[t, t2] }, ty, pos, aft, gd⟩ :: rest) σ L γ := h
end

attribute [irreducible] elt blk ro snap rowT SC SL XL XO CallS

/-! ### Slots known at a loop's head -/
def AllEq (σ : St) : List (Nat × Value) → Prop
  | [] => True
  | (d, v) :: r => σ d = v ∧ AllEq σ r
def upds (σ : St) : List (Nat × Value) → St
  | [] => σ
  | (d, v) :: r => upd (upds σ r) d v
theorem upds_of {σ : St} : ∀ {l : List (Nat × Value)}, AllEq σ l → σ = upds σ l
  | [], _ => rfl
  | (d, v) :: r, h => by
    have ih := upds_of h.2
    funext i
    simp only [upds, upd]
    cases hb : Nat.beq i d with
    | true => have : i = d := Nat.eq_of_beq_eq_true hb
              subst this; exact h.1
    | false => exact congrFun ih i
theorem AllEq.open {σ : St} {l : List (Nat × Value)} (h : AllEq σ l) : ∃ σ0, σ = upds σ0 l := ⟨σ, upds_of h⟩

theorem Knows.id {W : WR} {L : List Ent} {p : WO → Prop} (h : Knows W L p) : Knows W L p := h
/-! ### Short words -/
section
variable {α : Type} {a : α} {b0 b1 b2 b3 b4 b5 b6 b7 : α} {l : List α}
theorem m0 : a ∈ a :: l := List.mem_cons_self ..
theorem m1 (h : a ∈ l) : a ∈ b0 :: l := List.mem_cons_of_mem _ h
theorem m2 (h : a ∈ l) : a ∈ b0 :: b1 :: l := m1 (m1 h)
theorem m4 (h : a ∈ l) : a ∈ b0 :: b1 :: b2 :: b3 :: l := m2 (m2 h)
theorem m8 (h : a ∈ l) : a ∈ b0 :: b1 :: b2 :: b3 :: b4 :: b5 :: b6 :: b7 :: l := m4 (m4 h)
theorem s0 (l : List α) : [].Sublist l := List.nil_sublist l
theorem s1 (l : List α) : l.Sublist l := List.Sublist.refl l
theorem s2 {l' : List α} (a : α) (h : l.Sublist l') : (a :: l).Sublist (a :: l') := h.cons_cons a
theorem s3 {l' : List α} (a : α) (h : l.Sublist l') : l.Sublist (a :: l') := h.cons a
end
theorem p0 {e e' : Ent} {L : List Ent} : Put (e :: L) e e' (e' :: L) := Put.here
theorem p1 {x e e' : Ent} {L L' : List Ent} (h : Put L e e' L') : Put (x :: L) e e' (x :: L') := Put.there h
theorem n0 {a b : Nat} (h : Nat.ble a b = true) : a ≤ b := Nat.le_of_ble_eq_true h
end Go.Proofs.Ytnmhgfeglfcbgaa
