/-
  Proved here: rules of a walk without a world: the frame as a function of slots, the memory as a list of disjoint pieces; one rule for each form of code and operation.
  Conditions: none beyond each rule's own.
-/
import Derived.WalkKit
import Derived.ScopeJumps
import Derived.Deep.QuietTactic
import Derived.Deep.AppendLies
import Derived.Test.YtfcljepagnipaaaOrd
namespace Go.Proofs.Ytfcljepagnipaaa
open Go.RowKit

/-! ### The frame as a function -/
abbrev St := Nat → Value
def upd (σ : St) (d : Nat) (v : Value) : St := fun i => bif Nat.beq i d then v else σ i
def ev (σ : St) : Operand → Value
  | .tmp t => σ t
  | .const v => v
  | .global g => .pointer (some ⟨g, 0, none⟩)
  | .func f => .func (.func f) #[] #[]

structure Rep (n : Nat) (σ : St) (a : Act) : Prop where
  defers : a.defers = []
  size : a.tmps.size = n
  get : ∀ i, a.tmps.getD i undef = σ i

theorem Rep.eval {n : Nat} {σ : St} {a : Act} (h : Rep n σ a) : a.eval = ev σ := by
  funext x; cases x
  · exact h.get _
  all_goals rfl

theorem Rep.put {n : Nat} {σ : St} {a : Act} (h : Rep n σ a) {d : Nat} (hd : d < n) (v : Value) : Rep n (upd σ d v) (a.put (some d) v) := by
  refine ⟨h.defers, by simp [Act.put, h.size], fun i => ?_⟩
  have hs := h.size
  have hg := h.get i
  have ho : a.tmps.getD i undef = (a.tmps[i]?).getD undef := by simp
  have hn : (a.tmps.setIfInBounds d v).getD i undef = ((a.tmps.setIfInBounds d v)[i]?).getD undef := by simp
  show (a.tmps.setIfInBounds d v).getD i undef = _
  rw [hn, Array.getElem?_setIfInBounds]
  rw [ho] at hg
  unfold upd
  by_cases e : d = i
  · subst e; simp [hs, hd]
  · have : Nat.beq i d = false := by
      rw [← Bool.not_eq_true, Nat.beq_eq]; exact fun h => e h.symm
    rw [this, if_neg e]; exact hg

/-! ### The memory as pieces -/
structure Ent where
  S : Nat → Prop
  p : World → Prop
  loc : ∀ w w' : World, (∀ k, S k → w'.heap[k]? = w.heap[k]?) → p w → p w'

structure Ent.ok (e : Ent) (w : World) : Prop where
  lt : ∀ k, e.S k → k < w.heap.size
  holds : e.p w

structure Mem (W w : World) (L : List Ent) : Prop where
  os : w.os = W.os
  tape : w.tape = W.tape
  output : w.output = W.output
  size : W.heap.size ≤ w.heap.size
  ok : ∀ e ∈ L, e.ok w
  sep : L.Pairwise (fun a b => ∀ k, a.S k → ¬ b.S k)

def Knows (W : World) (L : List Ent) (p : World → Prop) : Prop := ∀ w, Mem W w L → p w

theorem Mem.tail {W w : World} {e : Ent} {L : List Ent} (h : Mem W w (e :: L)) : Mem W w L :=
  ⟨h.os, h.tape, h.output, h.size, fun x hx => h.ok x (List.mem_cons_of_mem _ hx), (List.pairwise_cons.1 h.sep).2⟩

theorem Mem.perm {W w : World} {L L' : List Ent} (h : Mem W w L) (hp : L.Perm L') : Mem W w L' :=
  ⟨h.os, h.tape, h.output, h.size, fun x hx => h.ok x (hp.mem_iff.2 hx),
    (hp.pairwise_iff (fun {_ _} hxy k hy hx => hxy k hx hy)).1 h.sep⟩

theorem Mem.sublist {W w : World} {L L' : List Ent} (h : Mem W w L) (hs : L'.Sublist L) : Mem W w L' :=
  ⟨h.os, h.tape, h.output, h.size, fun x hx => h.ok x (hs.subset hx), h.sep.sublist hs⟩

theorem Mem.drew {W w : World} {L : List Ent} (h : Mem W w L) (m : Nat) : Mem W { w with drawn := m } L :=
  ⟨h.os, h.tape, h.output, h.size, fun x hx => ⟨(h.ok x hx).lt, x.loc w _ (fun _ _ => rfl) (h.ok x hx).holds⟩, h.sep⟩

/-- THE ONE LAW OF CHANGE: the head piece gives way to others; nothing outside it that was there turns. -/
theorem Mem.change {W w w' : World} {e : Ent} {es L : List Ent} (h : Mem W w (e :: L))
    (hos : w'.os = w.os) (htp : w'.tape = w.tape) (hout : w'.output = w.output) (hsz : w.heap.size ≤ w'.heap.size)
    (hk : ∀ k, k < w.heap.size → ¬ e.S k → w'.heap[k]? = w.heap[k]?)
    (hok : ∀ x ∈ es, x.ok w') (hS : ∀ x ∈ es, ∀ k, x.S k → e.S k ∨ w.heap.size ≤ k)
    (hsep : es.Pairwise (fun a b => ∀ k, a.S k → ¬ b.S k)) : Mem W w' (es ++ L) := by
  have hs := List.pairwise_cons.1 h.sep
  refine ⟨hos.trans h.os, htp.trans h.tape, hout.trans h.output, Nat.le_trans h.size hsz, fun x hx => ?_, ?_⟩
  · rcases List.mem_append.1 hx with hx | hx
    · exact hok x hx
    · have hx' := h.ok x (List.mem_cons_of_mem _ hx)
      refine ⟨fun k hk => Nat.lt_of_lt_of_le (hx'.lt k hk) hsz, x.loc w w' (fun k hkS => hk k (hx'.lt k hkS) (fun he => hs.1 x hx k he hkS)) hx'.holds⟩
  · refine List.pairwise_append.2 ⟨hsep, hs.2, fun a ha b hb k hak hbk => ?_⟩
    rcases hS a ha k hak with h1 | h1
    · exact hs.1 b hb k h1 hbk
    · have := (h.ok b (List.mem_cons_of_mem _ hb)).lt k hbk; omega

/-- Nothing that was there turns; new pieces lie in new blocks. -/
theorem Mem.grow {W w w' : World} {es L : List Ent} (h : Mem W w L)
    (hos : w'.os = w.os) (htp : w'.tape = w.tape) (hout : w'.output = w.output) (hsz : w.heap.size ≤ w'.heap.size)
    (hk : ∀ k, k < w.heap.size → w'.heap[k]? = w.heap[k]?)
    (hok : ∀ x ∈ es, x.ok w') (hS : ∀ x ∈ es, ∀ k, x.S k → w.heap.size ≤ k)
    (hsep : es.Pairwise (fun a b => ∀ k, a.S k → ¬ b.S k)) : Mem W w' (es ++ L) := by
  refine ⟨hos.trans h.os, htp.trans h.tape, hout.trans h.output, Nat.le_trans h.size hsz, fun x hx => ?_, ?_⟩
  · rcases List.mem_append.1 hx with hx | hx
    · exact hok x hx
    · have hx' := h.ok x hx
      exact ⟨fun k hk => Nat.lt_of_lt_of_le (hx'.lt k hk) hsz, x.loc w w' (fun k hkS => hk k (hx'.lt k hkS)) hx'.holds⟩
  · refine List.pairwise_append.2 ⟨hsep, h.sep, fun a ha b hb k hak hbk => ?_⟩
    have := hS a ha k hak
    have := (h.ok b hb).lt k hbk; omega

theorem perm_mid (pre post : List Ent) (e : Ent) : (pre ++ e :: post).Perm (e :: (pre ++ post)) := List.perm_middle

/-- A block that is known whole, none of it frozen. -/
def blk (g : Nat) (t : TypeId) (cs : List Value) : Ent :=
  ⟨(· = g), fun w => w.heap[g]? = some (.cells cs.toArray t (0, 0)), fun _ _ h hp => (h g rfl).trans hp⟩

/-- All that was there in a world. -/
def snap (W : World) : Ent :=
  ⟨(· < W.heap.size), fun w => ∀ k, k < W.heap.size → w.heap[k]? = W.heap[k]?, fun _ _ h hp k hk => (h k hk).trans (hp k hk)⟩

/-- Whatever is known of some blocks. -/
def ro (S : Nat → Prop) (p : World → Prop) (loc : ∀ w w' : World, (∀ k, S k → w'.heap[k]? = w.heap[k]?) → p w → p w') : Ent := ⟨S, p, loc⟩

theorem Knows.cons {W : World} {L : List Ent} {p : World → Prop} (e : Ent) (h : Knows W L p) : Knows W (e :: L) p := fun w hw => h w hw.tail
theorem Knows.mono {W : World} {L : List Ent} {p q : World → Prop} (h : Knows W L p) (hpq : ∀ w, p w → q w) : Knows W L q := fun w hw => hpq w (h w hw)
theorem Knows.mem {W : World} {L : List Ent} {e : Ent} (h : e ∈ L) : Knows W L e.p := fun _ hw => (hw.ok e h).holds
theorem Knows.sub {W : World} {L L' : List Ent} {p : World → Prop} (h : Knows W L p) (hs : L.Sublist L') : Knows W L' p := fun w hw => h w (hw.sublist hs)
theorem Knows.head {W : World} {L : List Ent} {e : Ent} : Knows W (e :: L) e.p := Knows.mem (List.mem_cons_self ..)

/-! ### Slots, guards -/
def updO (σ : St) (d : Option Nat) (v : Value) : St := match d with | some d => upd σ d v | none => σ
def dstOk (n : Nat) (d : Option Nat) : Bool := match d with | some d => Nat.blt d n | none => true
def yieldσ (ops : Array Oper) (σ : St) (j : Nat) : Option Bool :=
  match (ops[j]?).bind (·.dst) with
  | some d => (match σ d with | .bool b => some b | _ => none)
  | none => none
def wantedσ (ops : Array Oper) (σ : St) (o : Oper) : Bool :=
  match o.guard with
  | none => true
  | some (j, want) => match yieldσ ops σ j with
    | some b => (match b, want with | true, true => true | false, false => true | _, _ => false)
    | none => false

theorem Rep.putO {n : Nat} {σ : St} {a : Act} (h : Rep n σ a) {d : Option Nat} (hd : dstOk n d = true) (v : Value) : Rep n (updO σ d v) (a.put d v) := by
  cases d with
  | none => exact h
  | some d => exact h.put (by simpa [dstOk, Nat.blt_eq] using hd) v

theorem Rep.wanted {n : Nat} {σ : St} {a : Act} (h : Rep n σ a) (ops : Array Oper) (o : Oper) : Region.wanted o (yielded ops a.tmps) = wantedσ ops σ o := by
  unfold Region.wanted wantedσ
  cases o.guard with
  | none => rfl
  | some g =>
    obtain ⟨j, want⟩ := g
    have hy : yielded ops a.tmps j = yieldσ ops σ j := by
      unfold yielded yieldσ
      cases (ops[j]?).bind (·.dst) with
      | none => rfl
      | some d =>
        have hg := h.get d
        simp only [Option.bind_some]
        have ho : a.tmps.getD d undef = (a.tmps[d]?).getD undef := by simp
        rw [ho] at hg
        cases hx : a.tmps[d]? with
        | none => rw [hx] at hg; simp at hg; rw [← hg]; rfl
        | some v => rw [hx] at hg; simp at hg; rw [← hg]; cases v <;> rfl
    simp only [hy]
    cases yieldσ ops σ j with
    | none => rfl
    | some b => cases b <;> cases want <;> rfl


/-! ### The judgements -/
section
variable (P : Program) (n : Nat) (W : World)

def lift (Q : Exit → St → List Ent → Prop) : Exit → Act → World → Prop :=
  fun e a w => ∃ σ L, Rep n σ a ∧ Mem W w L ∧ Q e σ L

def SC (c : Code) (Q : Exit → St → List Ent → Prop) (σ : St) (L : List Ent) : Prop :=
  ∀ a w, Rep n σ a → Mem W w L → c.wp P (lift n W Q) a w

def ValOp (P : Program) (W : World) (L : List Ent) (σ : St) (o : Oper) (v : Value) : Prop :=
  ∀ w, Mem W w L → (execOp (ev σ) o).run P w = .ok (.value v) w

/-- A walk in an order that takes all values as early as may be. -/
def SSem (Ls : List Ent) (ops : Array Oper) (Q : Exit → St → List Ent → Prop) : List Oper → St → List Ent → Prop
  | [], σ, L => Q .normal σ L
  | o :: r, σ, L =>
    (kindOf o.op ≤ 1 → ∃ v, dstOk n o.dst = true ∧ ((wantedσ ops σ o = true ∧ (if kindOf o.op = 0 then ∀ w, (execOp (ev σ) o).run P w = .ok (.value v) w else ValOp P W L σ o v)) ∨ (wantedσ ops σ o = false ∧ v = undef)) ∧
      SSem Ls ops Q r (updO σ o.dst v) L) ∧
    (2 ≤ kindOf o.op → ∀ a w, Rep n σ a → Mem W w L →
      (wantedσ ops σ o = true → o.wp P a w (fun a' w' => ∃ σ' L', Rep n σ' a' ∧ Mem W w' L' ∧ (kindOf o.op = 2 → L.Sublist L') ∧ (Ls.Sublist L → Ls.Sublist L') ∧ SSem Ls ops Q r σ' L') (lift n W Q)) ∧
      (wantedσ ops σ o = false → ∃ σ', Rep n σ' (a.put o.dst undef) ∧ SSem Ls ops Q r σ' L))

inductive Md where
  | plain
  | quiet
  | sched (Ls : List Ent)
def Md.chg : Md → Bool
  | .quiet => false
  | _ => true
/-- What the region leaves alone stays. -/
def Md.keeps : Md → List Ent → Prop
  | .sched Ls, L => Ls.Sublist L
  | _, _ => True

/-- plain: in the text's order · quiet: a region that draws its order, all of whose operations leave the pieces as they are · sched: one that draws it, in an order with the values first. -/
def SL (q : Md) (ops : Array Oper) (Q : Exit → St → List Ent → Prop) (l : List Oper) (σ : St) (L : List Ent) : Prop :=
  match q with
  | .plain => ∀ a w, Rep n σ a → Mem W w L → wpList P ops (lift n W Q) l a w
  | .quiet => ∀ a, Rep n σ a → wpQuiet P ops (fun w => Mem W w L) (fun a' => ∃ σ', Rep n σ' a' ∧ Q .normal σ' L) l a
  | .sched Ls => SSem P n W Ls ops Q l σ L

def CallS (f : FuncId) (args : Array Value) (L : List Ent) (R : Value → List Ent → Prop) : Prop :=
  ∀ w, Mem W w L → Calls P f args w (fun e w' => ∃ v L', e = .returned v ∧ Mem W w' L' ∧ R v L')
end

section rules
variable {P : Program} {n : Nat} {W : World} {Q : Exit → St → List Ent → Prop} {σ : St} {L : List Ent}

def seqQ (K : St → List Ent → Prop) (Q : Exit → St → List Ent → Prop) : Exit → St → List Ent → Prop
  | .normal, σ, L => K σ L
  | e, σ, L => Q e σ L

def blockQ (id : Nat) (Q : Exit → St → List Ent → Prop) : Exit → St → List Ent → Prop
  | .exit id', σ, L => bif Nat.beq id' id then Q .normal σ L else Q (.exit id') σ L
  | e, σ, L => Q e σ L

theorem SC.mono {c : Code} {Q' : Exit → St → List Ent → Prop} (h : SC P n W c Q σ L) (hq : ∀ e σ L, Q e σ L → Q' e σ L) : SC P n W c Q' σ L :=
  fun a w ha hw => wp_mono (h a w ha hw) fun _ _ _ ⟨σ', L', h1, h2, h3⟩ => ⟨σ', L', h1, h2, hq _ _ _ h3⟩

theorem SC.pure {c : Code} {φ : Prop} (hφ : ∀ w, Mem W w L → φ) (h : φ → SC P n W c Q σ L) : SC P n W c Q σ L := fun a w ha hw => h (hφ w hw) a w ha hw
theorem SL.pure {ops : Array Oper} {l : List Oper} {φ : Prop} (hφ : ∀ w, Mem W w L → φ) (h : φ → SL P n W .plain ops Q l σ L) : SL P n W .plain ops Q l σ L := fun a w ha hw => h (hφ w hw) a w ha hw
theorem SC.weaken {c : Code} {L' : List Ent} (hL : ∀ w, Mem W w L → Mem W w L') (h : SC P n W c Q σ L') : SC P n W c Q σ L := fun a w ha hw => h a w ha (hL w hw)
theorem SL.weaken {ops : Array Oper} {l : List Oper} {L' : List Ent} (hL : ∀ w, Mem W w L → Mem W w L') (h : SL P n W .plain ops Q l σ L') : SL P n W .plain ops Q l σ L := fun a w ha hw => h a w ha (hL w hw)

theorem SC_skip (h : Q .normal σ L) : SC P n W .skip Q σ L := fun _ _ ha hw => wp_skip ⟨σ, L, ha, hw, h⟩
theorem SC_ret (h : Q .ret σ L) : SC P n W .ret Q σ L := fun _ _ ha hw => wp_ret ⟨σ, L, ha, hw, h⟩
theorem SC_exit {id : Nat} (h : Q (.exit id) σ L) : SC P n W (.exit id) Q σ L := fun _ _ ha hw => wp_exit ⟨σ, L, ha, hw, h⟩
theorem SC_goto {l : Nat} (h : Q (.goto l) σ L) : SC P n W (.goto l) Q σ L := fun _ _ ha hw => wp_goto ⟨σ, L, ha, hw, h⟩
theorem SC_label {l : Nat} (h : Q .normal σ L) : SC P n W (.label l) Q σ L := fun _ _ ha hw => wp_label ⟨σ, L, ha, hw, h⟩

theorem SC_seq {x y : Code} (h : SC P n W x (seqQ (SC P n W y Q) Q) σ L) : SC P n W (x.seq y) Q σ L := fun a w ha hw =>
  wp_seq (wp_mono (h a w ha hw) fun e a' w' ⟨σ', L', h1, h2, h3⟩ => by
    cases e
    case normal => exact h3 a' w' h1 h2
    all_goals exact ⟨σ', L', h1, h2, h3⟩)

theorem SC_cond {c : Operand} {x y : Code} {b : Bool} (hc : ev σ c = .bool b) (ht : b = true → SC P n W x Q σ L) (hf : b = false → SC P n W y Q σ L) :
    SC P n W (.cond c x y) Q σ L := fun a w ha hw =>
  wp_cond_split (t := b) (by rw [ha.eval]; exact hc) (fun h => ht h a w ha hw) (fun h => hf h a w ha hw)

theorem SC_block {id : Nat} {c : Code} (h : SC P n W c (blockQ id Q) σ L) : SC P n W (.block id c) Q σ L := fun a w ha hw =>
  wp_block (wp_mono (h a w ha hw) fun e a' w' ⟨σ', L', h1, h2, h3⟩ => by
    match e, h3 with
    | .exit jd, h3 =>
      simp only [Exit.inBlock]
      simp only [blockQ] at h3
      by_cases hid : jd = id
      · rw [if_pos hid]
        rw [show Nat.beq jd id = true from by rw [Nat.beq_eq]; exact hid] at h3; exact ⟨σ', L', h1, h2, h3⟩
      · rw [if_neg hid]
        rw [show Nat.beq jd id = false from by rw [← Bool.not_eq_true, Nat.beq_eq]; exact hid] at h3; exact ⟨σ', L', h1, h2, h3⟩
    | .normal, h3 => exact ⟨σ', L', h1, h2, h3⟩
    | .goto _, h3 => exact ⟨σ', L', h1, h2, h3⟩
    | .ret, h3 => exact ⟨σ', L', h1, h2, h3⟩
    | .panic _, h3 => exact ⟨σ', L', h1, h2, h3⟩
    | .outgrown, h3 => exact ⟨σ', L', h1, h2, h3⟩)

theorem SC_region {id : Nat} {ops : Array Oper} (h : SL P n W .plain ops Q ops.toList σ L) : SC P n W (.region id ops false) Q σ L := fun a w ha hw =>
  wp_region_list (h a w ha hw)

theorem SC_draw {id : Nat} {ops : Array Oper} (hm : P.follows .mixedOrders = true) (hB : Region.lexB .any ops = true) (h : SL P n W .quiet ops Q ops.toList σ L) :
    SC P n W (.region id ops true) Q σ L := fun a w ha hw => by
  refine wp_region_quiet (C := fun w => Mem W w L) hm hB (hw.drew _) ?_
  have hq := h a ha
  have mono : ∀ (l : List Oper) (a : Act), wpQuiet P ops (fun w => Mem W w L) (fun a' => ∃ σ', Rep n σ' a' ∧ Q .normal σ' L) l a →
      wpQuiet P ops (fun w => Mem W w L) (fun a' => ∀ w', Mem W w' L → lift n W Q .normal a' w') l a := by
    intro l
    induction l with
    | nil => rintro a ⟨σ', h1, h2⟩ w' hw'; exact ⟨σ', L, h1, hw', h2⟩
    | cons o r ih =>
      intro a h
      unfold wpQuiet at h ⊢
      split
      · rename_i hg; rw [if_pos hg] at h; exact Oper.quiet_mono ih h
      · rename_i hg; rw [if_neg hg] at h; exact ih _ h
  exact mono _ _ hq

theorem SL_nil {q : Md} {ops : Array Oper} (h : Q .normal σ L) : SL P n W q ops Q [] σ L := by
  cases q
  · exact fun _ _ ha hw => ⟨σ, L, ha, hw, h⟩
  · exact fun _ ha => ⟨σ, ha, h⟩
  · exact h

/-- A walk by a plan. -/
def SPl (P : Program) (n : Nat) (W : World) (Ls : List Ent) (ops : Array Oper) (Q : Exit → St → List Ent → Prop) : Plan → St → List Ent → Prop
  | .fin, σ, L => Q .normal σ L
  | .op i r, σ, L => ∃ o, ops[i]? = some o ∧
    (kindOf o.op ≤ 1 → ∃ v, dstOk n o.dst = true ∧ ((wantedσ ops σ o = true ∧ (if kindOf o.op = 0 then ∀ w, (execOp (ev σ) o).run P w = .ok (.value v) w else ValOp P W L σ o v)) ∨ (wantedσ ops σ o = false ∧ v = undef)) ∧
      SPl P n W Ls ops Q r (updO σ o.dst v) L) ∧
    (2 ≤ kindOf o.op → ∀ a w, Rep n σ a → Mem W w L →
      (wantedσ ops σ o = true → o.wp P a w (fun a' w' => ∃ σ' L', Rep n σ' a' ∧ Mem W w' L' ∧ (kindOf o.op = 2 → L.Sublist L') ∧ (Ls.Sublist L → Ls.Sublist L') ∧ SPl P n W Ls ops Q r σ' L') (lift n W Q)) ∧
      (wantedσ ops σ o = false → ∃ σ', Rep n σ' (a.put o.dst undef) ∧ SPl P n W Ls ops Q r σ' L))
  | .opS i r, σ, L => ∃ o, ops[i]? = some o ∧ ∃ v, dstOk n o.dst = true ∧ ((wantedσ ops σ o = true ∧ ValOp P W Ls σ o v) ∨ (wantedσ ops σ o = false ∧ v = undef)) ∧
      SPl P n W Ls ops Q r (updO σ o.dst v) L
  | .alt p q, σ, L => SPl P n W Ls ops Q p σ L ∧ SPl P n W Ls ops Q q σ L

theorem plan_sound {ops : Array Oper} {Ls : List Ent} (hsel : Region.noSelect ops = true) (hQ : ∀ c σ L, ¬ Q (.panic c) σ L) : ∀ (plan : Plan) (listed : Array Bool) (σ : St) (L : List Ent) (a : Act) (w : World),
    SPl P n W Ls ops Q plan σ L → Rep n σ a → Mem W w L → Ls.Sublist L →
    (planOk ops false plan listed = true → wpAnyC P ops (fun w => Mem W w Ls) (fun w => Mem W w L) (lift n W Q) plan.len listed a w) ∧
    (planOk ops true plan listed = true → ∀ i ∈ plan.heads, wpOp P ops (lift n W Q) i (fun a' w' => Mem W w' Ls ∧ (still ops (listed.setIfInBounds i true) = true → Mem W w' L) ∧ wpAnyC P ops (fun w => Mem W w Ls) (fun w => Mem W w L) (lift n W Q) (plan.len - 1) (listed.setIfInBounds i true) a' w') a w)
  | .fin, listed, σ, L, a, w, hs, ha, hw, hLs => ⟨fun hp => ⟨by simpa [planOk] using hp, σ, L, ha, hw, hs⟩, fun _ i hi => by simp [Plan.heads] at hi⟩
  | .alt p q, listed, σ, L, a, w, hs, ha, hw, hLs => by
    have hh : planOk ops true (.alt p q) listed = true → ∀ i ∈ (Plan.alt p q).heads, wpOp P ops (lift n W Q) i (fun a' w' => Mem W w' Ls ∧ (still ops (listed.setIfInBounds i true) = true → Mem W w' L) ∧ wpAnyC P ops (fun w => Mem W w Ls) (fun w => Mem W w L) (lift n W Q) ((Plan.alt p q).len - 1) (listed.setIfInBounds i true) a' w') a w := by
      intro hp i hi
      simp only [planOk, Bool.true_or, Bool.true_and, Bool.and_eq_true, beq_iff_eq] at hp
      obtain ⟨⟨hl, hp1⟩, hp2⟩ := hp
      rcases List.mem_append.1 hi with hi | hi
      · exact (plan_sound hsel hQ p listed σ L a w hs.1 ha hw hLs).2 hp1 i hi
      · have := (plan_sound hsel hQ q listed σ L a w hs.2 ha hw hLs).2 hp2 i hi
        rw [← hl] at this
        exact this
    refine ⟨fun hp => ?_, hh⟩
    simp only [planOk, Bool.false_or, Bool.and_eq_true, beq_iff_eq] at hp
    obtain ⟨⟨⟨⟨hne, hall⟩, hl⟩, hp1⟩, hp2⟩ := hp
    have hp' : planOk ops true (.alt p q) listed = true := by simp [planOk, hl, hp1, hp2]
    have hne' : Region.ready .any ops listed ≠ [] := by intro h; rw [h] at hne; cases hne
    cases hlen : (Plan.alt p q).len with
    | zero =>
      -- some head is ready, so that the plan is not empty
      exfalso
      obtain ⟨i, hi⟩ := List.exists_mem_of_ne_nil _ hne'
      rw [List.all_eq_true] at hall
      have hih := hall i hi
      have key : ∀ r : Plan, i ∈ r.heads → planOk ops true r listed = true → 0 < r.len := by
        intro r
        induction r with
        | fin => intro h; simp [Plan.heads] at h
        | op j r _ => intro _ _; simp [Plan.len]
        | opS j r _ => intro h; simp [Plan.heads] at h
        | alt p q ihp ihq =>
          intro h hk
          simp only [planOk, Bool.true_or, Bool.true_and, Bool.and_eq_true, beq_iff_eq] at hk
          rcases List.mem_append.1 h with h | h
          · exact ihp h hk.1.2
          · have := ihq h hk.2; simp only [Plan.len]; omega
      have := key (.alt p q) (by simpa [Plan.heads] using hih) hp'
      omega
    | succ f =>
      refine ⟨fun h => absurd h hne', fun i hi => ?_⟩
      rw [List.all_eq_true] at hall
      have := hh hp' i (by simpa [Plan.heads] using hall i hi)
      rw [hlen] at this
      exact this
  | .opS i r, listed, σ, L, a, w, hs, ha, hw, hLs => by
    have hQ' : ∀ c a w, ¬ lift n W Q (.panic c) a w := fun c a w ⟨σ, L, _, _, h⟩ => hQ c σ L h
    obtain ⟨o, ho, v, hd, hv, hrest⟩ := hs
    refine ⟨fun hp => ?_, fun _ i hi => by simp [Plan.heads] at hi⟩
    simp only [planOk, Bool.not_false, Bool.true_and, Bool.and_eq_true] at hp
    obtain ⟨⟨⟨hk, hr⟩, hf⟩, hp2⟩ := hp
    have hwant := ha.wanted ops o
    have hy : YieldsE P ops (fun w => Mem W w Ls) o v a := by
      rcases hv with ⟨h1, h2⟩ | ⟨h1, h2⟩
      · exact .inl ⟨by rw [hwant]; exact h1, fun w hw => by rw [ha.eval]; exact h2 w hw⟩
      · exact .inr ⟨by rw [hwant]; exact h1, h2⟩
    have hk3 : kindAt ops i ≠ 3 := by intro h; rw [h] at hk; cases hk
    exact takeE ho (Region.noSelect_spec hsel) hQ' hk3 (fun _ => True) (fun _ _ _ _ _ _ => ⟨trivial, fun _ h _ => h⟩) r.len listed a w trivial (hw.sublist hLs) (hw.sublist hLs) (fun _ => hw) (Region.free_spec ho hf) (by simpa using hr) hy
      ((plan_sound hsel hQ r _ _ L _ w hrest (ha.putO hd v) hw hLs).1 hp2)
  | .op i r, listed, σ, L, a, w, hs, ha, hw, hLs => by
    have hQ' : ∀ c a w, ¬ lift n W Q (.panic c) a w := fun c a w ⟨σ, L, _, _, h⟩ => hQ c σ L h
    obtain ⟨o, ho, hs⟩ := hs
    have hka : kindAt ops i = kindOf o.op := by simp [kindAt, ho]
    have hwant := ha.wanted ops o
    have state : 2 ≤ kindOf o.op → planOk ops false r (listed.setIfInBounds i true) = true →
        wpOp P ops (lift n W Q) i (fun a' w' => Mem W w' Ls ∧ (still ops (listed.setIfInBounds i true) = true → Mem W w' L) ∧ wpAnyC P ops (fun w => Mem W w Ls) (fun w => Mem W w L) (lift n W Q) r.len (listed.setIfInBounds i true) a' w') a w := by
      intro hk2 hp2
      unfold wpOp
      rw [ho]
      simp only
      obtain ⟨hy, hn⟩ := hs.2 hk2 a w ha hw
      have step : ∀ σ' L' a' w', Rep n σ' a' → Mem W w' L' → (kindOf o.op = 2 → L.Sublist L') → (Ls.Sublist L → Ls.Sublist L') → SPl P n W Ls ops Q r σ' L' →
          Mem W w' Ls ∧ (still ops (listed.setIfInBounds i true) = true → Mem W w' L) ∧ wpAnyC P ops (fun w => Mem W w Ls) (fun w => Mem W w L) (lift n W Q) r.len (listed.setIfInBounds i true) a' w' := by
        intro σ' L' a' w' h1 h2 h3 h5 h4
        have ih := (plan_sound hsel hQ r (listed.setIfInBounds i true) _ L' a' w' h4 h1 h2 (h5 hLs)).1 hp2
        refine ⟨h2.sublist (h5 hLs), ?_⟩
        by_cases hk3 : kindOf o.op = 2
        · exact ⟨fun _ => h2.sublist (h3 hk3), wpAnyC_mono (fun w hw => hw.sublist (h3 hk3)) _ _ _ _ ih⟩
        · have hle : ∀ x : Op, kindOf x ≤ 3 := by intro x; unfold kindOf; split <;> omega
          have hk33 : kindAt ops i = 3 := by rw [hka]; have := hle o.op; omega
          have hoff : still ops (listed.setIfInBounds i true) = false := by
            rw [← Bool.not_eq_true]
            intro hc
            unfold still at hc
            rw [List.all_eq_true] at hc
            have := hc i (List.mem_range.2 (Array.getElem?_eq_some_iff.1 ho).1)
            rw [hk33] at this
            simp at this
          exact ⟨fun hc => (by rw [hoff] at hc; cases hc), wpAnyC_off _ _ _ _ hoff ih⟩
      rw [hwant]
      by_cases hg : wantedσ ops σ o = true
      · rw [if_pos hg]
        exact .inl (Oper.wp_mono (fun a' w' ⟨σ', L', h1, h2, h3, h5, h4⟩ => step σ' L' a' w' h1 h2 h3 h5 h4) (hy hg))
      · rw [if_neg hg]
        obtain ⟨σ', h1, h2⟩ := hn (by simpa using hg)
        exact step σ' L _ w h1 hw (fun _ => List.Sublist.refl _) id h2
    constructor
    · intro hp
      simp only [planOk, Bool.not_false, Bool.true_and, Bool.false_or, Bool.and_eq_true] at hp
      obtain ⟨hp1, hp2⟩ := hp
      rw [hka] at hp1
      have value : ∀ (E : World → Prop) (Inv : Array Bool → Prop), kindOf o.op ≤ 1 → i ∈ Region.ready .any ops listed → Region.free .any ops listed i = true → E w → Inv listed →
          (∀ listed j, Inv listed → i ∈ Region.ready .any ops listed → j ∈ Region.ready .any ops listed → j ≠ i → Inv (listed.setIfInBounds j true) ∧
            ∀ w', Mem W w' Ls → (still ops (listed.setIfInBounds j true) = true → Mem W w' L) → E w') →
          (∀ v, (if kindOf o.op = 0 then ∀ w, (execOp (ev σ) o).run P w = .ok (.value v) w else ValOp P W L σ o v) → ∀ w, E w → (execOp (ev σ) o).run P w = .ok (.value v) w) →
          wpAnyC P ops (fun w => Mem W w Ls) (fun w => Mem W w L) (lift n W Q) (r.len + 1) listed a w := by
        intro E Inv hk hr hf hE hI hInv hval
        obtain ⟨v, hd, hv, hrest⟩ := hs.1 hk
        have hy : YieldsE P ops E o v a := by
          rcases hv with ⟨h1, h2⟩ | ⟨h1, h2⟩
          · exact .inl ⟨by rw [hwant]; exact h1, fun w hw => by rw [ha.eval]; exact hval v h2 w hw⟩
          · exact .inr ⟨by rw [hwant]; exact h1, h2⟩
        exact takeE ho (Region.noSelect_spec hsel) hQ' (by rw [hka]; omega) Inv hInv r.len listed a w hI hE (hw.sublist hLs) (fun _ => hw) (Region.free_spec ho hf) hr hy
          ((plan_sound hsel hQ r _ _ L _ w hrest (ha.putO hd v) hw hLs).1 hp2)
      show wpAnyC P ops (fun w => Mem W w Ls) (fun w => Mem W w L) (lift n W Q) (r.len + 1) listed a w
      by_cases hk0 : kindOf o.op = 0
      · rw [hk0] at hp1
        simp only [Bool.and_eq_true] at hp1
        exact value (fun _ => True) (fun _ => True) (by omega) (by simpa using hp1.1) hp1.2 trivial trivial (fun _ _ _ _ _ _ => ⟨trivial, fun _ _ _ => trivial⟩)
          (fun v h w _ => by rw [if_pos hk0] at h; exact h w)
      · by_cases hk1 : kindOf o.op = 1
        · rw [hk1] at hp1
          simp only [Bool.and_eq_true] at hp1
          obtain ⟨⟨⟨⟨h1, h2⟩, h3⟩, h4⟩, h5⟩ := hp1
          refine value (fun w => Mem W w L) (fun listed => still ops listed = true ∧ waited ops listed i = true ∧ closedB ops listed = true) (by omega) (by simpa using h1) h2 hw ⟨h3, h4, h5⟩ ?_
            (fun v h w hw => by rw [if_neg hk0] at h; exact h w hw)
          rintro listed j ⟨hst, hwt, hcl⟩ hir hjr hji
          have hj3 : kindAt ops j ≠ 3 := by
            intro hk
            obtain ⟨hjun, oj, hoj, hall⟩ := mem_ready.1 hjr
            unfold waited at hwt
            rw [List.all_eq_true] at hwt
            have := hwt j (List.mem_range.2 (Array.getElem?_eq_some_iff.1 hoj).1)
            rw [hk, hjun] at this
            simp only [bne_self_eq_false, Bool.false_or] at this
            have h1 := waits_listed hcl 8 j oj hoj hall this
            have h0 := (mem_ready.1 hir).1
            rcases Nat.lt_or_ge i listed.size with h' | h'
            · simp [h'] at h0 h1; rw [h0] at h1; cases h1
            · simp [Array.getElem?_eq_none h'] at h1
          have hst' := still_set hj3 hst
          refine ⟨⟨hst', ?_, closed_set hcl hjr⟩, fun w' _ h => h hst'⟩
          unfold waited at hwt ⊢
          rw [List.all_eq_true] at hwt ⊢
          intro k hk
          have := hwt k hk
          by_cases hjk : j = k
          · subst hjk; simp
          · rw [getD_set_ne true hjk]; exact this
        · have hk2 : 2 ≤ kindOf o.op := by omega
          have hready : Region.ready .any ops listed = [i] := by
            revert hp1
            generalize kindOf o.op = kk at hk2
            match kk, hk2 with
            | kk + 2, _ =>
              intro hp1
              simp only at hp1
              split at hp1
              · rename_i j hj
                have hji : j = i := by simpa using hp1
                subst hji; exact hj
              · cases hp1
          refine ⟨fun h => (by rw [hready] at h; cases h), fun j hj => ?_⟩
          rw [hready] at hj
          have hj : j = i := by simpa using hj
          subst hj
          exact state hk2 hp2
    · intro hp j hj
      have hj : j = i := by simpa [Plan.heads] using hj
      subst hj
      simp only [planOk, Bool.not_true, Bool.false_and, Bool.true_or, Bool.and_eq_true] at hp
      obtain ⟨hp1, hp2⟩ := hp
      rw [hka] at hp1
      have hk2 : 2 ≤ kindOf o.op := by
        match hk : kindOf o.op, hp1 with
        | kk + 2, _ => omega
      exact state hk2 hp2

theorem SC_plan {id : Nat} {ops : Array Oper} (Ls : List Ent) (plan : Plan) (hm : P.follows .mixedOrders = true) (hsel : Region.noSelect ops = true) (hp : planOk ops false plan (Array.replicate ops.size false) = true)
    (hlen : plan.len = ops.size) (hQ : ∀ c σ L, ¬ Q (.panic c) σ L) (hLs : Ls.Sublist L) (h : SPl P n W Ls ops Q plan σ L) : SC P n W (.region id ops true) Q σ L := fun a w ha hw => by
  refine wp_region_any hm (wpAnyC_any (D := fun w => Mem W w Ls) (C := fun w => Mem W w L) _ _ _ _ ?_)
  have := (plan_sound hsel hQ plan _ σ L a _ h ha (hw.drew (w.drawn + 1)) hLs).1 hp
  rw [hlen] at this
  exact this

def planQ (P : Program) (n : Nat) (W : World) (Ls : List Ent) (ops : Array Oper) (Q : Exit → St → List Ent → Prop) (p : Plan) : Exit → St → List Ent → Prop
  | .normal, σ, L => SPl P n W Ls ops Q p σ L
  | e, σ, L => Q e σ L

theorem SP_fin {ops : Array Oper} {Ls : List Ent} (h : Q .normal σ L) : SPl P n W Ls ops Q .fin σ L := h
theorem SP_alt {ops : Array Oper} {Ls : List Ent} {p q : Plan} (h1 : SPl P n W Ls ops Q p σ L) (h2 : SPl P n W Ls ops Q q σ L) : SPl P n W Ls ops Q (.alt p q) σ L := ⟨h1, h2⟩

theorem lift_planQ {ops : Array Oper} {Ls : List Ent} {p : Plan} {e : Exit} (he : e ≠ .normal) {a : Act} {w : World} (h : lift n W (planQ P n W Ls ops Q p) e a w) : lift n W Q e a w := by
  obtain ⟨σ, L, h1, h2, h3⟩ := h
  cases e <;> first | exact (he rfl).elim | exact ⟨σ, L, h1, h2, h3⟩

theorem upon_mono {o : Oper} {a : Act} {K : Act → World → Prop} {Q Q' : Exit → Act → World → Prop} (hQ : ∀ e, e ≠ .normal → ∀ a w, Q e a w → Q' e a w) {w : World} (h : o.wp P a w K Q) : o.wp P a w K Q' := by
  unfold Oper.wp at *
  generalize (execOp a.eval o).run P w = r at *
  cases r with
  | ok n w' =>
    cases n <;> simp only [Oper.upon] at h ⊢ <;> try exact h
    exact Calls.mono h fun e w'' he => by
      cases e with
      | returned v => exact he
      | panicked c => exact hQ _ (by simp) _ _ he
      | outgrown => exact he.elim fun a ⟨w, h⟩ => ⟨a, w, hQ _ (by simp) _ _ h⟩
  | halt x w' =>
    cases x <;> simp only [Oper.upon] at h ⊢
    exact hQ _ (by simp) _ _ h

theorem SP_run {ops : Array Oper} {Ls : List Ent} : ∀ (l : List Nat) (p : Plan) (σ : St) (L : List Ent), (l.all fun i => (ops[i]?).isSome) = true → SL P n W (.sched Ls) ops (planQ P n W Ls ops Q p) (l.filterMap (ops[·]?)) σ L → SPl P n W Ls ops Q (Plan.ops l p) σ L
  | [], _, _, _, _, h => h
  | i :: r, p, σ, L, hi, h => by
    rw [List.all_eq_true] at hi
    obtain ⟨o, ho⟩ := Option.isSome_iff_exists.1 (hi i (List.mem_cons_self ..))
    have hfm : (i :: r).filterMap (ops[·]?) = o :: r.filterMap (ops[·]?) := by simp [ho]
    rw [hfm] at h
    have hi' : (r.all fun i => (ops[i]?).isSome) = true := by rw [List.all_eq_true]; exact fun j hj => hi j (List.mem_cons_of_mem _ hj)
    obtain ⟨h1, h2⟩ := h
    refine ⟨o, ho, fun hk => ?_, fun hk a w ha hw => ?_⟩
    · obtain ⟨v, hd, hv, hr⟩ := h1 hk
      exact ⟨v, hd, hv, SP_run r p _ _ hi' hr⟩
    · obtain ⟨hy, hn⟩ := h2 hk a w ha hw
      refine ⟨fun hg => upon_mono (fun e he a w h => lift_planQ he h) (Oper.wp_mono (fun a' w' ⟨σ', L', h1, h2, h3, h5, h4⟩ => ⟨σ', L', h1, h2, h3, h5, SP_run r p _ _ hi' h4⟩) (hy hg)), fun hg => ?_⟩
      obtain ⟨σ', h1, h2⟩ := hn hg
      exact ⟨σ', h1, SP_run r p _ _ hi' h2⟩

/-- These are read off the pieces that nothing in the region touches: a walk over those alone. -/
def stableQ (P : Program) (n : Nat) (W : World) (Ls : List Ent) (ops : Array Oper) (Q : Exit → St → List Ent → Prop) (p : Plan) (L : List Ent) : Exit → St → List Ent → Prop
  | .normal, σ, _ => SPl P n W Ls ops Q p σ L
  | _, _, _ => False
theorem SP_runS {ops : Array Oper} {Ls : List Ent} : ∀ (l : List Nat) (p : Plan) (σ : St), (l.all fun i => ((ops[i]?).map fun o => decide (kindOf o.op ≤ 1)).getD false) = true →
    SL P n W (.sched []) ops (stableQ P n W Ls ops Q p L) (l.filterMap (ops[·]?)) σ Ls → SPl P n W Ls ops Q (Plan.opsS l p) σ L
  | [], _, _, _, h => h
  | i :: r, p, σ, hi, h => by
    rw [List.all_eq_true] at hi
    have h0 := hi i (List.mem_cons_self ..)
    cases ho : ops[i]? with
    | none => rw [ho] at h0; cases h0
    | some o =>
      rw [ho] at h0
      have hk : kindOf o.op ≤ 1 := by simpa using h0
      have hfm : (i :: r).filterMap (ops[·]?) = o :: r.filterMap (ops[·]?) := by simp [ho]
      rw [hfm] at h
      obtain ⟨v, hd, hv, hr⟩ := h.1 hk
      refine ⟨o, ho, v, hd, ?_, SP_runS r p _ (by rw [List.all_eq_true]; exact fun j hj => hi j (List.mem_cons_of_mem _ hj)) hr⟩
      rcases hv with ⟨h1, h2⟩ | h1
      · left
        refine ⟨h1, ?_⟩
        split at h2
        · exact fun w _ => h2 w
        · exact h2
      · exact .inr h1

/-- A region whose order is drawn, where no two that turn memory may come next at once. -/
theorem SC_sched {id : Nat} {ops : Array Oper} (plan : List Nat) (hm : P.follows .mixedOrders = true) (hsel : Region.noSelect ops = true) (hp : planOk ops false (Plan.ops plan .fin) (Array.replicate ops.size false) = true)
    (hlen : (Plan.ops plan .fin).len = ops.size) (hi : (plan.all fun i => (ops[i]?).isSome) = true) (hQ : ∀ c σ L, ¬ Q (.panic c) σ L) (h : SL P n W (.sched []) ops (planQ P n W [] ops Q .fin) (plan.filterMap (ops[·]?)) σ L) : SC P n W (.region id ops true) Q σ L :=
  SC_plan [] _ hm hsel hp hlen hQ (List.nil_sublist _) (SP_run _ _ _ _ hi h)

/-- A piece of code that only ends in the common way: what holds behind it. -/
def normQ (R : St → List Ent → Prop) : Exit → St → List Ent → Prop
  | .normal, σ, L => R σ L
  | _, _, _ => False
theorem SC_cut {c : Code} (R : St → List Ent → Prop) (h1 : SC P n W c (normQ R) σ L) (h2 : ∀ σ L, R σ L → Q .normal σ L) : SC P n W c Q σ L :=
  h1.mono fun e σ L h => by
    cases e with
    | normal => exact h2 σ L h
    | _ => exact h.elim

/-- A loop: what holds at each head, with a number that each round lowers; pieces may be let go. -/
theorem SC_loop {c : Code} (I : Nat → St → List Ent → Prop) (m : Nat) (Lc : List Ent) (hs : Lc.Sublist L) (h0 : I m σ Lc)
    (round : ∀ m σ L, I m σ L → SC P n W c (seqQ (fun σ' L' => ∃ m' Lc, m' < m ∧ Lc.Sublist L' ∧ I m' σ' Lc) Q) σ L) : SC P n W (.loop c) Q σ L := by
  intro a w ha hw
  have hmin : ∀ p : Nat → Prop, (∃ m, p m) → ∃ m, p m ∧ ∀ k, p k → m ≤ k := by
    intro p ⟨m, hm⟩
    induction m using Nat.strongRecOn with
    | _ m ih =>
      by_cases hx : ∃ k, k < m ∧ p k
      · obtain ⟨k, hk, hp⟩ := hx; exact ih k hk hp
      · exact ⟨m, hm, fun k hp => Nat.le_of_not_lt fun hlt => hx ⟨k, hlt, hp⟩⟩
  let J : Act → World → Nat → Prop := fun a w m => ∃ σ L, Rep n σ a ∧ Mem W w L ∧ I m σ L
  let μ : Act → World → Nat := fun a w => open Classical in if h : ∃ m, J a w m then Classical.choose (hmin _ h) else 0
  have hμ : ∀ a w m, J a w m → J a w (μ a w) ∧ μ a w ≤ m := by
    intro a w m hm
    have hex : ∃ m, J a w m := ⟨m, hm⟩
    have e : μ a w = Classical.choose (hmin _ hex) := dif_pos hex
    rw [e]
    exact ⟨(Classical.choose_spec (hmin _ hex)).1, (Classical.choose_spec (hmin _ hex)).2 m hm⟩
  refine wp_loop (fun a w => ∃ m, J a w m) μ ⟨m, σ, Lc, ha, hw.sublist hs, h0⟩ ?_
  rintro a w ⟨m, hm⟩
  obtain ⟨σ, L, ha, hw, hI⟩ := (hμ a w m hm).1
  refine wp_mono (round _ σ L hI a w ha hw) ?_
  rintro e a' w' ⟨σ', L', h1, h2, h3⟩
  cases e
  case normal =>
    obtain ⟨m', Lc, hlt, hsub, hI'⟩ := h3
    have hj : J a' w' m' := ⟨σ', Lc, h1, h2.sublist hsub, hI'⟩
    exact ⟨⟨m', hj⟩, Nat.lt_of_le_of_lt (hμ a' w' m' hj).2 hlt⟩
  all_goals exact ⟨σ', L', h1, h2, h3⟩

/-- A scope with one label to which the run jumps back. -/
theorem SC_scope {c rest : Code} (l : Nat) (hf : findLabel c l = some rest) (I : Nat → St → List Ent → Prop)
    (first : SC P n W c (fun e σ' L' => match e with | .goto l' => l' = l ∧ ∃ m Lc, Lc.Sublist L' ∧ I m σ' Lc | e => Q e σ' L') σ L)
    (pass : ∀ m σ L, I m σ L → SC P n W rest (fun e σ' L' => match e with | .goto l' => l' = l ∧ ∃ m' Lc, m' < m ∧ Lc.Sublist L' ∧ I m' σ' Lc | e => Q e σ' L') σ L) :
    SC P n W (.scope c) Q σ L := by
  intro a w ha hw
  have hmin : ∀ p : Nat → Prop, (∃ m, p m) → ∃ m, p m ∧ ∀ k, p k → m ≤ k := by
    intro p ⟨m, hm⟩
    induction m using Nat.strongRecOn with
    | _ m ih =>
      by_cases hx : ∃ k, k < m ∧ p k
      · obtain ⟨k, hk, hp⟩ := hx; exact ih k hk hp
      · exact ⟨m, hm, fun k hp => Nat.le_of_not_lt fun hlt => hx ⟨k, hlt, hp⟩⟩
  let J : Act → World → Nat → Prop := fun a w m => ∃ σ L, Rep n σ a ∧ Mem W w L ∧ I m σ L
  let μ : Act → World → Nat := fun a w => open Classical in if h : ∃ m, J a w m then Classical.choose (hmin _ h) else 0
  have hμ : ∀ a w m, J a w m → J a w (μ a w) ∧ μ a w ≤ m := by
    intro a w m hm
    have hex : ∃ m, J a w m := ⟨m, hm⟩
    have e : μ a w = Classical.choose (hmin _ hex) := dif_pos hex
    rw [e]
    exact ⟨(Classical.choose_spec (hmin _ hex)).1, (Classical.choose_spec (hmin _ hex)).2 m hm⟩
  refine wp_scope_jumps l (fun a w => ∃ m, J a w m) μ hf ?_ ?_
  · refine wp_mono (first a w ha hw) ?_
    rintro e a' w' ⟨σ', L', h1, h2, h3⟩
    cases e
    case goto l' =>
      obtain ⟨rfl, m, Lc, hsub, hI⟩ := h3
      exact ⟨rfl, m, σ', Lc, h1, h2.sublist hsub, hI⟩
    all_goals exact ⟨σ', L', h1, h2, h3⟩
  · rintro a w ⟨m, hm⟩
    obtain ⟨σ, L, ha, hw, hI⟩ := (hμ a w m hm).1
    refine wp_mono (pass _ σ L hI a w ha hw) ?_
    rintro e a' w' ⟨σ', L', h1, h2, h3⟩
    cases e
    case goto l' =>
      obtain ⟨rfl, m', Lc, hlt, hsub, hI'⟩ := h3
      have hj : J a' w' m' := ⟨σ', Lc, h1, h2.sublist hsub, hI'⟩
      exact ⟨rfl, ⟨m', hj⟩, Nat.lt_of_le_of_lt (hμ a' w' m' hj).2 hlt⟩
    all_goals exact ⟨σ', L', h1, h2, h3⟩

/-- Pieces let go. -/
theorem SC.drop {c : Code} (Lc : List Ent) (hs : Lc.Sublist L) (h : SC P n W c Q σ Lc) : SC P n W c Q σ L := h.weaken fun _ hw => hw.sublist hs

/-! ### Entering, leaving -/
def St0 (args : Array Value) : St := fun i => args.toList.getD i undef

/-- What a function's end must show. -/
def bodyQ (P : Program) (W : World) (fn : Func) (R : Value → List Ent → Prop) : Exit → St → List Ent → Prop
  | .normal, σ, L | .ret, σ, L => ∀ a w, Rep fn.ntmps σ a → Mem W w L → ∃ v, (results fn a.tmps).run P w = .ok v w ∧ ∃ L', Mem W w L' ∧ R v L'
  | _, _, _ => False

theorem CallS_enter {f : FuncId} {fn : Func} {c : Code} {args : Array Value} {R : Value → List Ent → Prop} (hf : P.funcs[f]? = some fn) (hb : fn.body = some c)
    (hn : args.size ≤ fn.ntmps) (h : SC P fn.ntmps W c (bodyQ P W fn R) (St0 args) L) : CallS P W f args L R := by
  intro w hw
  refine calls_of_wp hf hb ?_
  have hrep : Rep fn.ntmps (St0 args) { tmps := args ++ Array.replicate (fn.ntmps - args.size) undef, defers := [] } := by
    refine ⟨rfl, by simp; omega, fun i => ?_⟩
    obtain ⟨l⟩ := args
    simp only [St0, Array.getD_eq_getD_getElem?, List.getD_eq_getElem?_getD, Array.getElem?_append, Array.getElem?_replicate]
    simp only [List.size_toArray, List.getElem?_toArray]
    by_cases hi : i < l.length
    · simp [hi]
    · rw [if_neg hi, List.getElem?_eq_none (by omega)]
      split <;> rfl
  refine wp_mono (h _ w hrep hw) ?_
  rintro e a' w' ⟨σ', L', h1, h2, h3⟩
  cases e <;> simp only [bodyQ] at h3
  case normal => obtain ⟨v, hr, L'', hm, hR⟩ := h3 a' w' h1 h2; exact ⟨h1.defers, v, hr, v, L'', rfl, hm, hR⟩
  case ret => obtain ⟨v, hr, L'', hm, hR⟩ := h3 a' w' h1 h2; exact ⟨h1.defers, v, hr, v, L'', rfl, hm, hR⟩

theorem CallS.mono {f : FuncId} {args : Array Value} {R R' : Value → List Ent → Prop} (h : CallS P W f args L R) (hr : ∀ v L', R v L' → R' v L') : CallS P W f args L R' :=
  fun w hw => (h w hw).mono fun _ _ ⟨v, L', h1, h2, h3⟩ => ⟨v, L', h1, h2, hr v L' h3⟩
theorem CallS.weaken {f : FuncId} {args : Array Value} {R : Value → List Ent → Prop} {L' : List Ent} (hL : ∀ w, Mem W w L → Mem W w L') (h : CallS P W f args L' R) : CallS P W f args L R :=
  fun w hw => h w (hL w hw)

theorem leave1 {fn : Func} {t : Nat} {R : Value → List Ent → Prop} (hr : fn.results = #[.tmp t]) (h : R (σ t) L) : bodyQ P W fn R .ret σ L := by
  intro a w ha hw
  refine ⟨σ t, ?_, L, hw, h⟩
  rw [results_tmp hr, ha.get]
theorem leave1N {fn : Func} {t : Nat} {R : Value → List Ent → Prop} (hr : fn.results = #[.tmp t]) (h : R (σ t) L) : bodyQ P W fn R .normal σ L := by
  intro a w ha hw
  refine ⟨σ t, ?_, L, hw, h⟩
  rw [results_tmp hr, ha.get]
theorem leave1W {fn : Func} {t : Nat} {L' : List Ent} {R : Value → List Ent → Prop} (hr : fn.results = #[.tmp t]) (hL : ∀ w, Mem W w L → Mem W w L') (h : R (σ t) L') : bodyQ P W fn R .ret σ L := by
  intro a w ha hw
  refine ⟨σ t, ?_, L', hL w hw, h⟩
  rw [results_tmp hr, ha.get]
theorem leave0 {fn : Func} {R : Value → List Ent → Prop} (hr : fn.results = #[]) (h : R (.tuple #[]) L) : bodyQ P W fn R .normal σ L := by
  intro a w _ hw
  exact ⟨_, results_none hr _ _ _, L, hw, h⟩
theorem leave0r {fn : Func} {R : Value → List Ent → Prop} (hr : fn.results = #[]) (h : R (.tuple #[]) L) : bodyQ P W fn R .ret σ L := by
  intro a w _ hw
  exact ⟨_, results_none hr _ _ _, L, hw, h⟩
theorem leave2 {fn : Func} {t u : Nat} {R : Value → List Ent → Prop} (hr : fn.results = #[.tmp t, .tmp u]) (h : R (.tuple #[σ t, σ u]) L) : bodyQ P W fn R .ret σ L := by
  intro a w ha hw
  refine ⟨.tuple #[σ t, σ u], ?_, L, hw, h⟩
  rw [results_tmp2 hr, ha.get, ha.get]
end rules
/-! ### What a program's type table says -/
class SliceT (P : Program) (t : Nat) (e size bytes : outParam Nat) : Prop where
  ul : P.underlying t = some (.slice e)
  info : ∃ i z, P.info? e = some i ∧ i.zero = some z ∧ i.size = size ∧ i.bytes = bytes ∧ z.cells.size = size
  pos : 0 < size
class FieldT (P : Program) (t f : Nat) (off : outParam Nat) : Prop where
  fact : ∃ fs fl i, P.underlying t = some (.struct fs) ∧ fs[f]? = some fl ∧ fl.offset = off ∧ P.info? fl.type = some i ∧ i.size ≠ 0
class OneT (P : Program) (t : Nat) : Prop where
  fact : ∃ d, P.underlying t = some d ∧ (match d with | .struct _ | .array _ _ => false | _ => true) = true
  size : ∃ i, P.info? t = some i ∧ i.size = 1
class AggT (P : Program) (t : Nat) (size : outParam Nat) : Prop where
  fact : ∃ d, P.underlying t = some d ∧ (match d with | .struct _ | .array _ _ => true | _ => false) = true
  info : ∃ i, P.info? t = some i ∧ i.size = size
class ZeroT (P : Program) (t : Nat) (z : outParam (List Value)) : Prop where
  fact : ∃ i v, P.info? t = some i ∧ i.zero = some v ∧ v.cells = z.toArray

section
variable {P : Program} {n : Nat} {W : World} {q : Md} {Q : Exit → St → List Ent → Prop} {σ : St} {L : List Ent} {ops : Array Oper} {rest : List Oper} {o : Oper}

theorem SL_core (hq : q.chg = true) (hk : 2 ≤ kindOf o.op) (hg : wantedσ ops σ o = true) (hd : dstOk n o.dst = true)
    (h : ∀ w, Mem W w L → ∃ v w' L', (execOp (ev σ) o).run P w = .ok (.value v) w' ∧ Mem W w' L' ∧ (kindOf o.op = 2 → L.Sublist L') ∧ (kindOf o.op = 2 ∨ (q.keeps L → q.keeps L')) ∧ SL P n W q ops Q rest (updO σ o.dst v) L') :
    SL P n W q ops Q (o :: rest) σ L := by
  cases q
  · intro a w ha hw
    unfold wpList
    rw [ha.wanted, hg, if_pos rfl]
    obtain ⟨v, w', L', hr, hm, _, _, hs⟩ := h w hw
    refine .inl ?_
    unfold Oper.wp
    rw [ha.eval, hr]
    exact hs _ _ (ha.putO hd v) hm
  · cases hq
  · refine ⟨fun h1 => by omega, fun _ a w ha hw => ⟨fun _ => ?_, fun h1 => by rw [hg] at h1; cases h1⟩⟩
    obtain ⟨v, w', L', hr, hm, hsub, hkp, hs⟩ := h w hw
    unfold Oper.wp
    rw [ha.eval, hr]
    exact ⟨_, L', ha.putO hd v, hm, hsub, fun h => hkp.elim (fun h2 => h.trans (hsub h2)) (fun h2 => h2 h), hs⟩

theorem SL_coreS (hq : q.chg = true) (hk : kindOf o.op = 3) (hg : wantedσ ops σ o = true) (hd : o.dst = none)
    (h : ∀ w, Mem W w L → ∃ w' L', (execOp (ev σ) o).run P w = .ok .skip w' ∧ Mem W w' L' ∧ (q.keeps L → q.keeps L') ∧ SL P n W q ops Q rest σ L') :
    SL P n W q ops Q (o :: rest) σ L := by
  cases q
  · intro a w ha hw
    unfold wpList
    rw [ha.wanted, hg, if_pos rfl]
    obtain ⟨w', L', hr, hm, _, hs⟩ := h w hw
    refine .inl ?_
    unfold Oper.wp
    rw [ha.eval, hr]
    have := hs _ _ ha hm
    simpa [Oper.upon, Act.put, hd] using this
  · cases hq
  · refine ⟨fun h1 => by omega, fun _ a w ha hw => ⟨fun _ => ?_, fun h1 => by rw [hg] at h1; cases h1⟩⟩
    obtain ⟨w', L', hr, hm, hkp, hs⟩ := h w hw
    unfold Oper.wp
    rw [ha.eval, hr]
    have hput : Act.put a o.dst undef = a := by rw [hd]; rfl
    exact ⟨σ, L', by rw [hput]; exact ha, hm, fun h2 => by omega, hkp, hs⟩

/-- A call of a Go function. -/
theorem SL_coreC (hq : q.chg = true) (hk : kindOf o.op = 2) (hg : wantedσ ops σ o = true) (hd : dstOk n o.dst = true) {f : FuncId} {args : Array Value} {R : Value → List Ent → Prop}
    (hr : ∀ w, (execOp (ev σ) o).run P w = .ok (.enter f args) w) (hc : CallS P W f args L R)
    (h : ∀ v L', R v L' → (q = .plain ∨ L.Sublist L') ∧ SL P n W q ops Q rest (updO σ o.dst v) L') :
    SL P n W q ops Q (o :: rest) σ L := by
  cases q
  · intro a w ha hw
    unfold wpList
    rw [ha.wanted, hg, if_pos rfl]
    refine .inl ?_
    unfold Oper.wp
    rw [ha.eval, hr]
    refine (hc w hw).mono ?_
    rintro e w' ⟨v, L', rfl, hm, hR⟩
    exact (h v L' hR).2 _ _ (ha.putO hd v) hm
  · cases hq
  · refine ⟨fun h1 => by omega, fun _ a w ha hw => ⟨fun _ => ?_, fun h1 => by rw [hg] at h1; cases h1⟩⟩
    unfold Oper.wp
    rw [ha.eval, hr]
    refine (hc w hw).mono ?_
    rintro e w' ⟨v, L', rfl, hm, hR⟩
    have hsub : L.Sublist L' := (h v L' hR).1.resolve_left (by intro h; cases h)
    exact ⟨_, L', ha.putO hd v, hm, fun _ => hsub, fun h => h.trans hsub, (h v L' hR).2⟩

theorem SL_skip (hg : wantedσ ops σ o = false) (hd : dstOk n o.dst = true) (h : SL P n W q ops Q rest (updO σ o.dst undef) L) : SL P n W q ops Q (o :: rest) σ L := by
  cases q
  · intro a w ha hw
    unfold wpList
    rw [ha.wanted, hg]
    exact h _ _ (ha.putO hd _) hw
  · intro a ha
    unfold wpQuiet
    rw [ha.wanted, hg]
    exact h _ (ha.putO hd _)
  · exact ⟨fun _ => ⟨undef, hd, .inr ⟨hg, rfl⟩, h⟩, fun _ a w ha hw => ⟨fun h1 => (by rw [hg] at h1; cases h1), fun _ => ⟨_, ha.putO hd _, h⟩⟩⟩

/-- A value that hangs on no world. -/
theorem SL_valW (v : Value) (hk : kindOf o.op ≤ 1) (hg : wantedσ ops σ o = true) (hd : dstOk n o.dst = true) (hv : ∀ w, (execOp (ev σ) o).run P w = .ok (.value v) w)
    (h : SL P n W q ops Q rest (updO σ o.dst v) L) : SL P n W q ops Q (o :: rest) σ L := by
  cases q
  · intro a w ha hw
    unfold wpList
    rw [ha.wanted, hg, if_pos rfl]
    refine .inl ?_
    unfold Oper.wp
    rw [ha.eval, hv]
    exact h _ _ (ha.putO hd v) hw
  · intro a ha
    unfold wpQuiet
    rw [ha.wanted, hg, if_pos rfl]
    refine ⟨v, fun w hw => ?_, h _ (ha.putO hd v)⟩
    unfold Oper.quietAt
    rw [ha.eval, hv w]
    exact ⟨rfl, rfl⟩
  · refine ⟨fun _ => ⟨v, hd, .inl ⟨hg, ?_⟩, h⟩, fun h1 => by omega⟩
    split
    · exact hv
    · exact fun w _ => hv w

/-- A value in every world in which the pieces lie, the world left as it is. -/
theorem SL_val (v : Value) (hk : kindOf o.op = 1) (hg : wantedσ ops σ o = true) (hd : dstOk n o.dst = true) (hv : ValOp P W L σ o v)
    (h : SL P n W q ops Q rest (updO σ o.dst v) L) : SL P n W q ops Q (o :: rest) σ L := by
  cases q
  · intro a w ha hw
    unfold wpList
    rw [ha.wanted, hg, if_pos rfl]
    refine .inl ?_
    unfold Oper.wp
    rw [ha.eval, hv w hw]
    exact h _ _ (ha.putO hd v) hw
  · intro a ha
    unfold wpQuiet
    rw [ha.wanted, hg, if_pos rfl]
    refine ⟨v, fun w hw => ?_, h _ (ha.putO hd v)⟩
    unfold Oper.quietAt
    rw [ha.eval, hv w hw]
    exact ⟨rfl, rfl⟩
  · exact ⟨fun _ => ⟨v, hd, .inl ⟨hg, by rw [if_neg (by omega)]; exact hv⟩, h⟩, fun h1 => by omega⟩

/-- A call whose one value is known, and that leaves the pieces as they are: in any order. -/
theorem SL_coreQ (hk : kindOf o.op = 2) (hg : wantedσ ops σ o = true) (hd : dstOk n o.dst = true) {f : FuncId} {args : Array Value} (v : Value)
    (hr : ∀ w, (execOp (ev σ) o).run P w = .ok (.enter f args) w) (hc : CallS P W f args L (fun v' L' => v' = v ∧ L' = L))
    (h : SL P n W q ops Q rest (updO σ o.dst v) L) : SL P n W q ops Q (o :: rest) σ L := by
  cases q
  · exact SL_coreC rfl hk hg hd hr hc (by rintro v' L' ⟨rfl, rfl⟩; exact ⟨.inl rfl, h⟩)
  · intro a ha
    unfold wpQuiet
    rw [ha.wanted, hg, if_pos rfl]
    refine ⟨v, fun w hw => ?_, h _ (ha.putO hd v)⟩
    unfold Oper.quietAt
    rw [ha.eval, hr]
    refine ⟨rfl, (hc w hw).mono ?_⟩
    rintro e w' ⟨v', L', rfl, hm, rfl, rfl⟩
    exact ⟨rfl, hm⟩
  · exact SL_coreC rfl hk hg hd hr hc (by rintro v' L' ⟨rfl, rfl⟩; exact ⟨.inr (List.Sublist.refl _), h⟩)
end

/-! ### Pure operations -/
def pureBin (op : BinOp) (x y : Value) : Option Value :=
  match op, x, y with
  | .add, .int .i64 a, .int .i64 b => some (.int .i64 (IntKind.i64.wrap (a + b)))
  | .sub, .int .i64 a, .int .i64 b => some (.int .i64 (IntKind.i64.wrap (a - b)))
  | .mul, .int .i64 a, .int .i64 b => some (.int .i64 (IntKind.i64.wrap (a * b)))
  | .eql, .int .i64 a, .int .i64 b => some (.bool (a == b))
  | .neq, .int .i64 a, .int .i64 b => some (.bool (a != b))
  | .lss, .int .i64 a, .int .i64 b => some (.bool (decide (a < b)))
  | .leq, .int .i64 a, .int .i64 b => some (.bool (decide (a ≤ b)))
  | .gtr, .int .i64 a, .int .i64 b => some (.bool (decide (b < a)))
  | .geq, .int .i64 a, .int .i64 b => some (.bool (decide (b ≤ a)))
  | _, _, _ => none

/-- The value itself, where its form is known. -/
def force (v : Value) : Option Value :=
  match v with
  | .bool b => some (.bool b)
  | .int k n => some (.int k n)
  | .float k b => some (.float k b)
  | .complex k a b => some (.complex k a b)
  | .string s => some (.string s)
  | .pointer a => some (.pointer a)
  | .slice a n c => some (.slice a n c)
  | .map r => some (.map r)
  | .chan r => some (.chan r)
  | .func f a c => some (.func f a c)
  | .nilFunc => some .nilFunc
  | .iface t v => some (.iface t v)
  | .nilIface => some .nilIface
  | .agg cs => some (.agg cs)
  | .tuple vs => some (.tuple vs)
theorem force_eq (v : Value) : force v = some v := by cases v <;> rfl

def pureOp (ρ : Operand → Value) (o : Op) : Option Value :=
  match o with
  | .move x => force (ρ x)
  | .assign x => force (ρ x)
  | .pick c x y => match ρ c with
    | .bool true => force (ρ x)
    | .bool false => force (ρ y)
    | _ => none
  | .binOp op _ x y _ => pureBin op (ρ x) (ρ y)
  | .unOp .not _ x => match ρ x with
    | .bool b => some (.bool (!b))
    | _ => none
  | .extract x i => match ρ x with
    | .tuple vs => (vs.toList[i]?).bind force
    | _ => none
  | .call { callee := .builtin .max, args := ⟨[x, y]⟩, argTypes := _ } => match ρ x, ρ y with
    | .int .i64 a, .int .i64 b => some (.int .i64 (if a < b then b else a))
    | _, _ => none
  | .call { callee := .builtin .min, args := ⟨[x, y]⟩, argTypes := _ } => match ρ x, ρ y with
    | .int .i64 a, .int .i64 b => some (.int .i64 (if b < a then b else a))
    | _, _ => none
  | _ => none

theorem pureBin_sound {op : BinOp} {x y v : Value} (h : pureBin op x y = some v) (P : Program) (t : TypeId) (X Y : Operand) (w : World) :
    (do eqGuard op t X Y x y; binOp op t x y : Sem Value).run P w = .ok v w := by
  unfold pureBin at h
  split at h <;> (first | (cases h; simp [go_sem]) | cases h)

theorem pureOp_sound {P : Program} {σ : St} {o : Oper} {v : Value} (h : pureOp (ev σ) o.op = some v) (w : World) : (execOp (ev σ) o).run P w = .ok (.value v) w := by
  obtain ⟨dst, op, type, pos, after, guard⟩ := o
  simp only at h
  unfold pureOp at h
  split at h
  · rw [force_eq] at h; cases h; rfl
  · rw [force_eq] at h; cases h; rfl
  · rename_i c x y
    split at h <;> rename_i hc
    · rw [force_eq] at h; cases h; simp [execOp, hc, asBool]
    · rw [force_eq] at h; cases h; simp [execOp, hc, asBool]
    · cases h
  · have := pureBin_sound h P
    simp only [execOp]
    rw [Sem.run_bind, this]
    simp
  · rename_i x
    split at h <;> rename_i hc
    · cases h; simp [execOp, hc, Op.unary]
    · cases h
  · rename_i x i
    split at h <;> rename_i hc
    · rename_i vs
      have : vs[i]? = some v := by
        cases hx : vs.toList[i]? with
        | none => rw [hx] at h; cases h
        | some u => rw [hx] at h; simp only [Option.bind_some, force_eq] at h; cases h; simpa using hx
      simp [execOp, hc, Instr.extract, this]
    · cases h
  · split at h <;> rename_i h1 h2
    · cases h; simp [execOp, resolve, invoke, builtin, h1, h2, Builtin.max_, Builtin.max2]
    · cases h
  · split at h <;> rename_i h1 h2
    · cases h; simp [execOp, resolve, invoke, builtin, h1, h2, Builtin.min_, Builtin.min2]
    · cases h
  · cases h

theorem pureOp_kind {ρ : Operand → Value} {op : Op} {v : Value} (h : pureOp ρ op = some v) : kindOf op ≤ 1 := by
  unfold pureOp at h
  split at h <;> first | (exact Nat.le_of_ble_eq_true rfl) | cases h

section
variable {P : Program} {n : Nat} {W : World} {q : Md} {Q : Exit → St → List Ent → Prop} {σ : St} {L : List Ent} {ops : Array Oper} {rest : List Oper}
  {dst : Option Nat} {ty : TypeId} {pos : String} {aft : Array Edge} {gd : Option (Nat × Bool)}

theorem SL_pure {op : Op} {v : Value} (hv : pureOp (ev σ) op = some v)
    (hg : wantedσ ops σ ⟨dst, op, ty, pos, aft, gd⟩ = true) (hd : dstOk n dst = true)
    (h : SL P n W q ops Q rest (updO σ dst v) L) : SL P n W q ops Q (⟨dst, op, ty, pos, aft, gd⟩ :: rest) σ L :=
  SL_valW v (pureOp_kind hv) hg hd (pureOp_sound hv) h

/-! ### Sums without a wrap -/
theorem SL_add {x y : Operand} {t t2 : TypeId} {a b : Int} (hx : ev σ x = .int .i64 a) (hy : ev σ y = .int .i64 b)
    (hr : -9223372036854775808 ≤ a + b ∧ a + b ≤ 9223372036854775807)
    (hg : wantedσ ops σ ⟨dst, .binOp .add t x y t2, ty, pos, aft, gd⟩ = true) (hd : dstOk n dst = true)
    (h : SL P n W q ops Q rest (updO σ dst (.int .i64 (a + b))) L) : SL P n W q ops Q (⟨dst, .binOp .add t x y t2, ty, pos, aft, gd⟩ :: rest) σ L := by
  refine SL_valW _ (Nat.le_of_ble_eq_true rfl) hg hd (fun w => pureOp_sound ?_ w) h
  simp only [pureOp, hx, hy, pureBin]
  rw [IntWalk.i64_in _ (by omega)]

theorem SL_sub {x y : Operand} {t t2 : TypeId} {a b : Int} (hx : ev σ x = .int .i64 a) (hy : ev σ y = .int .i64 b)
    (hr : -9223372036854775808 ≤ a - b ∧ a - b ≤ 9223372036854775807)
    (hg : wantedσ ops σ ⟨dst, .binOp .sub t x y t2, ty, pos, aft, gd⟩ = true) (hd : dstOk n dst = true)
    (h : SL P n W q ops Q rest (updO σ dst (.int .i64 (a - b))) L) : SL P n W q ops Q (⟨dst, .binOp .sub t x y t2, ty, pos, aft, gd⟩ :: rest) σ L := by
  refine SL_valW _ (Nat.le_of_ble_eq_true rfl) hg hd (fun w => pureOp_sound ?_ w) h
  simp only [pureOp, hx, hy, pureBin]
  rw [IntWalk.i64_in _ (by omega)]

/-- A number converted to int, where it fits. -/
theorem SL_convI64 {x : Operand} {src dt : TypeId} {ds : TypeDesc} {k : IntKind} {a : Int} (hx : ev σ x = .int k a) (hs : P.underlying src = some ds) (hT : P.underlying dt = some (.int .i64))
    (hr : -9223372036854775808 ≤ a ∧ a ≤ 9223372036854775807)
    (hg : wantedσ ops σ ⟨dst, .convert src dt x, ty, pos, aft, gd⟩ = true) (hd : dstOk n dst = true)
    (h : SL P n W q ops Q rest (updO σ dst (.int .i64 a)) L) : SL P n W q ops Q (⟨dst, .convert src dt x, ty, pos, aft, gd⟩ :: rest) σ L := by
  refine SL_valW _ (Nat.le_of_ble_eq_true rfl) hg hd (fun w => ?_) h
  have hk : P.intKind dt = .i64 := by simp [Program.intKind, hT]
  have := run_convert_int (P := P) w src dt k a (by rw [hs]; rfl) (by rw [hk]; exact hT)
  simp only [execOp, hx, Sem.run_bind, this, hk, Result.andThen_ok, IntWalk.i64_in _ (show -9223372036854775808 ≤ a ∧ a ≤ 9223372036854775807 by omega), Sem.run_pure]

/-! ### len -/
theorem SL_len {x : Operand} {t : TypeId} {A : Option Addr} {l c : Nat} {e s b : Nat} [hT : SliceT P t e s b] (hx : ev σ x = .slice A l c)
    (hg : wantedσ ops σ ⟨dst, .call { callee := .builtin .len, args := #[x], argTypes := #[t] }, ty, pos, aft, gd⟩ = true) (hd : dstOk n dst = true)
    (h : SL P n W q ops Q rest (updO σ dst (.int .i64 (l : Int))) L) :
    SL P n W q ops Q (⟨dst, .call { callee := .builtin .len, args := #[x], argTypes := #[t] }, ty, pos, aft, gd⟩ :: rest) σ L := by
  refine SL_valW _ (Nat.le_of_ble_eq_true rfl) hg hd (fun w => ?_) h
  simp [execOp, resolve, invoke, builtin, hx, Builtin.len_, run_underlying hT.ul, goInt]

class BoolT (P : Program) (t : Nat) : Prop where
  ul : P.underlying t = some .bool
theorem SL_eqB {x y : Operand} {t t2 : TypeId} {a b : Bool} [hT : BoolT P t] (hx : ev σ x = .bool a) (hy : ev σ y = .bool b)
    (hg : wantedσ ops σ ⟨dst, .binOp .eql t x y t2, ty, pos, aft, gd⟩ = true) (hd : dstOk n dst = true)
    (h : SL P n W q ops Q rest (updO σ dst (.bool (a == b))) L) : SL P n W q ops Q (⟨dst, .binOp .eql t x y t2, ty, pos, aft, gd⟩ :: rest) σ L := by
  refine SL_valW _ (Nat.le_of_ble_eq_true rfl) hg hd (fun w => ?_) h
  simp [execOp, hx, hy, binOp, Op.equal, Op.maxDepth, run_equalIn_bool' w _ t a b hT.ul, go_sem]
theorem SL_neqB {x y : Operand} {t t2 : TypeId} {a b : Bool} [hT : BoolT P t] (hx : ev σ x = .bool a) (hy : ev σ y = .bool b)
    (hg : wantedσ ops σ ⟨dst, .binOp .neq t x y t2, ty, pos, aft, gd⟩ = true) (hd : dstOk n dst = true)
    (h : SL P n W q ops Q rest (updO σ dst (.bool (a != b))) L) : SL P n W q ops Q (⟨dst, .binOp .neq t x y t2, ty, pos, aft, gd⟩ :: rest) σ L := by
  refine SL_valW _ (Nat.le_of_ble_eq_true rfl) hg hd (fun w => ?_) h
  simp [execOp, hx, hy, binOp, Op.equal, Op.maxDepth, run_equalIn_bool' w _ t a b hT.ul, go_sem, bne]
class StrT (P : Program) (t : Nat) : Prop where
  ul : P.underlying t = some .string
theorem SL_lenS {x : Operand} {t : TypeId} {s : ByteArray} [hT : StrT P t] (hx : ev σ x = .string s)
    (hg : wantedσ ops σ ⟨dst, .call { callee := .builtin .len, args := #[x], argTypes := #[t] }, ty, pos, aft, gd⟩ = true) (hd : dstOk n dst = true)
    (h : SL P n W q ops Q rest (updO σ dst (.int .i64 (s.size : Int))) L) :
    SL P n W q ops Q (⟨dst, .call { callee := .builtin .len, args := #[x], argTypes := #[t] }, ty, pos, aft, gd⟩ :: rest) σ L := by
  refine SL_valW _ (Nat.le_of_ble_eq_true rfl) hg hd (fun w => ?_) h
  simp [execOp, resolve, invoke, builtin, hx, Builtin.len_, run_underlying hT.ul, goInt]

/-! ### Addresses, readings -/
/-- The address of cell j of element i of a slice. -/
def elt (A : Option Addr) (size i j : Nat) : Addr := ⟨(A.getD default).block, (A.getD default).off + (i * size + j), none⟩

/-- A slice's cells read as a list. -/
def Rd {α : Type} (A : Option Addr) (size : Nat) (enc : α → List Value) (l : List α) (w : World) : Prop :=
  l ≠ [] → ∃ b off, A = some ⟨b, off, none⟩ ∧ ∀ i j x u, l[i]? = some x → (enc x)[j]? = some u → w.cell? ⟨b, off + (i * size + j), none⟩ = some u

theorem Rd_nil {α : Type} {A : Option Addr} {size : Nat} {enc : α → List Value} {w : World} : Rd A size enc [] w := fun h => (h rfl).elim

theorem Rd.cell {α : Type} {A : Option Addr} {size : Nat} {enc : α → List Value} {l : List α} {w : World} (h : Rd A size enc l w) {i j : Nat} {x : α} {u : Value}
    (hi : l[i]? = some x) (hj : (enc x)[j]? = some u) : w.cell? (elt A size i j) = some u := by
  obtain ⟨b, off, rfl, hc⟩ := h (by rintro rfl; simp at hi)
  exact hc i j x u hi hj

theorem SL_indexAddr {x ix : Operand} {t : TypeId} {A : Option Addr} {l c i : Nat} {e s b : Nat} [hT : SliceT P t e s b] {α : Type} {enc : α → List Value} {xs : List α}
    (hx : ev σ x = .slice A l c) (hi : ev σ ix = .int .i64 (i : Int)) (hlt : i < l) (hl : xs.length = l) (hk : Knows W L (Rd A s enc xs))
    (hg : wantedσ ops σ ⟨dst, .indexAddr t x ix, ty, pos, aft, gd⟩ = true) (hd : dstOk n dst = true)
    (h : SL P n W q ops Q rest (updO σ dst (.pointer (some (elt A s i 0)))) L) :
    SL P n W q ops Q (⟨dst, .indexAddr t x ix, ty, pos, aft, gd⟩ :: rest) σ L := by
  refine SL_val _ rfl hg hd (fun w hw => ?_) h
  obtain ⟨b, off, rfl, -⟩ := hk w hw (by rintro rfl; simp at hl; omega)
  obtain ⟨inf, z, hinf, -, hs, -, -⟩ := hT.info
  simp [execOp, hx, hi, Instr.indexAt, run_underlying hT.ul, asIntOf, sizeOf, typeInfo, hinf, hs, elt, go_sem]
  omega

theorem SL_fieldAddr {x : Operand} {t f off : Nat} {b k : Nat} [hF : FieldT P t f off] (hx : ev σ x = .pointer (some ⟨b, k, none⟩))
    (hg : wantedσ ops σ ⟨dst, .fieldAddr t x f, ty, pos, aft, gd⟩ = true) (hd : dstOk n dst = true)
    (h : SL P n W q ops Q rest (updO σ dst (.pointer (some ⟨b, k + off, none⟩))) L) :
    SL P n W q ops Q (⟨dst, .fieldAddr t x f, ty, pos, aft, gd⟩ :: rest) σ L := by
  refine SL_valW _ (Nat.le_of_ble_eq_true rfl) hg hd (fun w => ?_) h
  obtain ⟨fs, fl, i, h1, h2, h3, h4, h5⟩ := hF.fact
  simp [execOp, hx, Instr.fieldAt, run_underlying h1, h2, Instr.sureAddr, fieldPlace, sizeOf, typeInfo, h4, h5, h3, go_sem]

theorem SL_fieldElt {x : Operand} {t f off : Nat} {A : Option Addr} {s i j : Nat} [hF : FieldT P t f off] (hx : ev σ x = .pointer (some (elt A s i j)))
    (hg : wantedσ ops σ ⟨dst, .fieldAddr t x f, ty, pos, aft, gd⟩ = true) (hd : dstOk n dst = true)
    (h : SL P n W q ops Q rest (updO σ dst (.pointer (some (elt A s i (j + off))))) L) :
    SL P n W q ops Q (⟨dst, .fieldAddr t x f, ty, pos, aft, gd⟩ :: rest) σ L := by
  refine SL_valW _ (Nat.le_of_ble_eq_true rfl) hg hd (fun w => ?_) h
  obtain ⟨fs, fl, inf, h1, h2, h3, h4, h5⟩ := hF.fact
  simp [execOp, hx, Instr.fieldAt, run_underlying h1, h2, Instr.sureAddr, fieldPlace, sizeOf, typeInfo, h4, h5, h3, go_sem, elt, Nat.add_assoc]

theorem run_loadVar_one {w : World} {t : Nat} [hO : OneT P t] {a : Addr} {v : Value} (hc : w.cell? a = some v) : (loadVar t a).run P w = .ok v w := by
  obtain ⟨d, h1, h2⟩ := hO.fact
  have hag : (isAgg t).run P w = .ok false w := by
    simp only [isAgg, Sem.run_bind, run_underlying h1, Result.andThen_ok]
    cases d <;> simp_all
  simp [loadVar, Sem.run_bind, hag, hc]

theorem run_loadVar_agg {w : World} {t s : Nat} [hO : AggT P t s] {a : Addr} {cs : List Value} (hl : cs.length = s) (hc : ∀ j v, cs[j]? = some v → w.cell? (a.add j) = some v) :
    (loadVar t a).run P w = .ok (.agg cs.toArray) w := by
  obtain ⟨d, h1, h2⟩ := hO.fact
  obtain ⟨i, h3, h4⟩ := hO.info
  have hag : (isAgg t).run P w = .ok true w := by
    simp only [isAgg, Sem.run_bind, run_underlying h1, Result.andThen_ok]
    cases d <;> simp_all
  have hld := run_loadCells_list (P := P) (w := w) a cs hc
  have hsz : (sizeOf t).run P w = .ok cs.length w := by simp [sizeOf, typeInfo, h3, h4, hl]
  simp [loadVar, Sem.run_bind, hag, hsz, hld]

/-- One cell of a slice that is read. -/
theorem SL_loadRd {x : Operand} {t : Nat} [OneT P t] {A : Option Addr} {s i j : Nat} {α : Type} {enc : α → List Value} {xs : List α} {e : α} {v : Value}
    (hx : ev σ x = .pointer (some (elt A s i j))) (hk : Knows W L (Rd A s enc xs)) (hi : xs[i]? = some e) (hj : (enc e)[j]? = some v)
    (hg : wantedσ ops σ ⟨dst, .load t x, ty, pos, aft, gd⟩ = true) (hd : dstOk n dst = true)
    (h : SL P n W q ops Q rest (updO σ dst v) L) : SL P n W q ops Q (⟨dst, .load t x, ty, pos, aft, gd⟩ :: rest) σ L := by
  refine SL_val _ rfl hg hd (fun w hw => ?_) h
  simp [execOp, hx, Instr.loadAt, Instr.sureAddr, run_loadVar_one ((hk w hw).cell hi hj)]

/-- A whole element of a slice that is read. -/
theorem SL_loadRdA {x : Operand} {t : Nat} {A : Option Addr} {s i : Nat} [AggT P t s] {α : Type} {enc : α → List Value} {xs : List α} {e : α}
    (hx : ev σ x = .pointer (some (elt A s i 0))) (hk : Knows W L (Rd A s enc xs)) (hi : xs[i]? = some e) (hl : (enc e).length = s)
    (hg : wantedσ ops σ ⟨dst, .load t x, ty, pos, aft, gd⟩ = true) (hd : dstOk n dst = true)
    (h : SL P n W q ops Q rest (updO σ dst (.agg (enc e).toArray)) L) : SL P n W q ops Q (⟨dst, .load t x, ty, pos, aft, gd⟩ :: rest) σ L := by
  refine SL_val _ rfl hg hd (fun w hw => ?_) h
  have := run_loadVar_agg (P := P) (w := w) (t := t) (a := elt A s i 0) (cs := enc e) hl (fun j v hj => by
    have h1 := (hk w hw).cell hi hj
    have h2 : (elt A s i 0).add j = elt A s i j := by simp [elt, Addr.add_lit, Nat.add_assoc]
    rw [h2]; exact h1)
  simp [execOp, hx, Instr.loadAt, Instr.sureAddr, this]

/-- One cell of a block that is known whole. -/
theorem SL_load {x : Operand} {t : Nat} [OneT P t] {g k : Nat} {t' : TypeId} {cs : List Value} {v : Value}
    (hx : ev σ x = .pointer (some ⟨g, k, none⟩)) (hm : blk g t' cs ∈ L) (hv : cs[k]? = some v)
    (hg : wantedσ ops σ ⟨dst, .load t x, ty, pos, aft, gd⟩ = true) (hd : dstOk n dst = true)
    (h : SL P n W q ops Q rest (updO σ dst v) L) : SL P n W q ops Q (⟨dst, .load t x, ty, pos, aft, gd⟩ :: rest) σ L := by
  refine SL_val _ rfl hg hd (fun w hw => ?_) h
  have hh : w.heap[g]? = some (.cells cs.toArray t' (0, 0)) := (hw.ok _ hm).holds
  have hc : w.cell? ⟨g, k, none⟩ = some v := by rw [cell_of_row w g k cs.toArray t' (0, 0) hh]; simpa using hv
  simp [execOp, hx, Instr.loadAt, Instr.sureAddr, run_loadVar_one hc]

/-- A struct out of a block that is known whole. -/
theorem SL_loadA {x : Operand} {t s : Nat} [AggT P t s] {g : Nat} {t' : TypeId} {cs : List Value}
    (hx : ev σ x = .pointer (some ⟨g, 0, none⟩)) (hm : blk g t' cs ∈ L) (hs : cs.length = s)
    (hg : wantedσ ops σ ⟨dst, .load t x, ty, pos, aft, gd⟩ = true) (hd : dstOk n dst = true)
    (h : SL P n W q ops Q rest (updO σ dst (.agg cs.toArray)) L) : SL P n W q ops Q (⟨dst, .load t x, ty, pos, aft, gd⟩ :: rest) σ L := by
  refine SL_val _ rfl hg hd (fun w hw => ?_) h
  have hh : w.heap[g]? = some (.cells cs.toArray t' (0, 0)) := (hw.ok _ hm).holds
  have := run_loadVar_agg (P := P) (w := w) (t := t) (a := ⟨g, 0, none⟩) (cs := cs) hs (fun j v hj => by
    rw [Addr.add_lit, cell_of_row w g _ cs.toArray t' (0, 0) hh]; simpa using hj)
  simp [execOp, hx, Instr.loadAt, Instr.sureAddr, this]
end

/-! ### Calls -/
section
variable {P : Program} {n : Nat} {W : World} {q : Md} {Q : Exit → St → List Ent → Prop} {σ : St} {L : List Ent} {ops : Array Oper} {rest : List Oper}
  {dst : Option Nat} {ty : TypeId} {pos : String} {aft : Array Edge} {gd : Option (Nat × Bool)}

theorem run_call {f : Operand} {l : List Operand} {tys : Array TypeId} {k : Nat} {fst cap : List Value} (hf : ev σ f = .func (.func k) fst.toArray cap.toArray)
    (hcf : ∀ args w, (callFunc k args).run P w = .ok (.enter k args) w) (w : World) :
    (execOp (ev σ) ⟨dst, .call { callee := .value f, args := l.toArray, argTypes := tys }, ty, pos, aft, gd⟩).run P w = .ok (.enter k (fst ++ l.map (ev σ) ++ cap).toArray) w := by
  simp [execOp, resolve, hf, Deferred.ofValue, invoke, hcf]

theorem SL_call {f : Operand} {l : List Operand} {tys : Array TypeId} {k : Nat} {fst cap : List Value} {R : Value → List Ent → Prop} (hf : ev σ f = .func (.func k) fst.toArray cap.toArray)
    (hcf : ∀ args w, (callFunc k args).run P w = .ok (.enter k args) w) (hc : CallS P W k (fst ++ l.map (ev σ) ++ cap).toArray L R)
    (hg : wantedσ ops σ ⟨dst, .call { callee := .value f, args := l.toArray, argTypes := tys }, ty, pos, aft, gd⟩ = true) (hd : dstOk n dst = true)
    (h : ∀ v L', R v L' → SL P n W .plain ops Q rest (updO σ dst v) L') :
    SL P n W .plain ops Q (⟨dst, .call { callee := .value f, args := l.toArray, argTypes := tys }, ty, pos, aft, gd⟩ :: rest) σ L :=
  SL_coreC rfl rfl hg hd (run_call hf hcf) hc fun v L' hR => ⟨.inl rfl, h v L' hR⟩

/-- In a region that draws its order: the call keeps all pieces. -/
theorem SL_callS {Ls : List Ent} {f : Operand} {l : List Operand} {tys : Array TypeId} {k : Nat} {fst cap : List Value} {R : Value → List Ent → Prop} (hf : ev σ f = .func (.func k) fst.toArray cap.toArray)
    (hcf : ∀ args w, (callFunc k args).run P w = .ok (.enter k args) w) (hc : CallS P W k (fst ++ l.map (ev σ) ++ cap).toArray L R)
    (hg : wantedσ ops σ ⟨dst, .call { callee := .value f, args := l.toArray, argTypes := tys }, ty, pos, aft, gd⟩ = true) (hd : dstOk n dst = true)
    (h : ∀ v L', R v L' → L.Sublist L' ∧ SL P n W (.sched Ls) ops Q rest (updO σ dst v) L') :
    SL P n W (.sched Ls) ops Q (⟨dst, .call { callee := .value f, args := l.toArray, argTypes := tys }, ty, pos, aft, gd⟩ :: rest) σ L :=
  SL_coreC rfl rfl hg hd (run_call hf hcf) hc fun v L' hR => ⟨.inr (h v L' hR).1, (h v L' hR).2⟩

theorem SL_callQ {f : Operand} {l : List Operand} {tys : Array TypeId} {k : Nat} {fst cap : List Value} (v : Value) (hf : ev σ f = .func (.func k) fst.toArray cap.toArray)
    (hcf : ∀ args w, (callFunc k args).run P w = .ok (.enter k args) w) (hc : CallS P W k (fst ++ l.map (ev σ) ++ cap).toArray L (fun v' L' => v' = v ∧ L' = L))
    (hg : wantedσ ops σ ⟨dst, .call { callee := .value f, args := l.toArray, argTypes := tys }, ty, pos, aft, gd⟩ = true) (hd : dstOk n dst = true)
    (h : SL P n W q ops Q rest (updO σ dst v) L) :
    SL P n W q ops Q (⟨dst, .call { callee := .value f, args := l.toArray, argTypes := tys }, ty, pos, aft, gd⟩ :: rest) σ L :=
  SL_coreQ rfl hg hd v (run_call hf hcf) hc h

theorem SL_makeFunc {k : Nat} {a b : List Operand}
    (hg : wantedσ ops σ ⟨dst, .makeFunc (.func k) a.toArray b.toArray, ty, pos, aft, gd⟩ = true) (hd : dstOk n dst = true)
    (h : SL P n W q ops Q rest (updO σ dst (.func (.func k) (a.map (ev σ)).toArray (b.map (ev σ)).toArray)) L) :
    SL P n W q ops Q (⟨dst, .makeFunc (.func k) a.toArray b.toArray, ty, pos, aft, gd⟩ :: rest) σ L :=
  SL_valW _ (Nat.le_of_ble_eq_true rfl) hg hd (fun w => by simp [execOp, Instr.makeFunc]) h

/-! ### Pieces that give way in place -/
def Put (L : List Ent) (e e' : Ent) (L' : List Ent) : Prop := ∃ pre post, L = pre ++ e :: post ∧ L' = pre ++ e' :: post
theorem Put.here {e e' : Ent} {L : List Ent} : Put (e :: L) e e' (e' :: L) := ⟨[], L, rfl, rfl⟩
theorem Put.there {x e e' : Ent} {L L' : List Ent} (h : Put L e e' L') : Put (x :: L) e e' (x :: L') := by
  obtain ⟨pre, post, rfl, rfl⟩ := h; exact ⟨x :: pre, post, rfl, rfl⟩
theorem Put.mem {e e' : Ent} {L L' : List Ent} (h : Put L e e' L') : e ∈ L := by obtain ⟨pre, post, rfl, rfl⟩ := h; simp

theorem Mem.put {w w' : World} {e e' : Ent} {L L' : List Ent} (h : Mem W w L) (hp : Put L e e' L')
    (hos : w'.os = w.os) (htp : w'.tape = w.tape) (hout : w'.output = w.output) (hsz : w.heap.size ≤ w'.heap.size)
    (hk : ∀ k, k < w.heap.size → ¬ e.S k → w'.heap[k]? = w.heap[k]?) (hok : e'.ok w') (hS : ∀ k, e'.S k → e.S k ∨ w.heap.size ≤ k) : Mem W w' L' := by
  obtain ⟨pre, post, rfl, rfl⟩ := hp
  have h1 := (h.perm List.perm_middle).change (es := [e']) hos htp hout hsz hk (by simpa using hok) (by simpa using hS) (by simp)
  exact h1.perm (show (e' :: (pre ++ post)).Perm _ from (List.perm_middle).symm)

/-- A new block at the head. -/
theorem Mem.alloc {w : World} (h : Mem W w L) (t : TypeId) (cs : List Value) : Mem W (w.alloc (.cells cs.toArray t)) (blk w.heap.size t cs :: L) := by
  refine h.grow (es := [blk w.heap.size t cs]) rfl rfl rfl (by simp) (fun k hk => heap_alloc_old w _ hk) ?_ ?_ (by simp)
  · intro x hx
    have hx : x = blk w.heap.size t cs := by simpa using hx
    subst hx
    exact ⟨fun k hk => by have hk : k = w.heap.size := hk; subst hk; simp, heap_alloc_new w _⟩
  · intro x hx k hk
    have hx : x = blk w.heap.size t cs := by simpa using hx
    subst hx
    have hk : k = w.heap.size := hk
    omega

theorem SL_box {x : Operand} {t : Nat} {cs : List Value} (hx : (ev σ x).cells = cs.toArray)
    (hq : q.chg = true) (hg : wantedσ ops σ ⟨dst, .box t x, ty, pos, aft, gd⟩ = true) (hd : dstOk n dst = true)
    (h : ∀ g : Nat, SL P n W q ops Q rest (updO σ dst (.pointer (some ⟨g, 0, none⟩))) (blk g t cs :: L)) :
    SL P n W q ops Q (⟨dst, .box t x, ty, pos, aft, gd⟩ :: rest) σ L := by
  refine SL_core hq (Nat.le_of_ble_eq_true rfl) hg hd fun w hw => ⟨_, _, _, ?_, hw.alloc t cs, fun _ => List.sublist_cons_self _ _, .inl rfl, h _⟩
  simp [execOp, Instr.box, newVar, newRow, hx]

theorem SL_alloc {t : Nat} {cs : List Value} [hz : ZeroT P t cs]
    (hq : q.chg = true) (hg : wantedσ ops σ ⟨dst, .alloc t, ty, pos, aft, gd⟩ = true) (hd : dstOk n dst = true)
    (h : ∀ g : Nat, SL P n W q ops Q rest (updO σ dst (.pointer (some ⟨g, 0, none⟩))) (blk g t cs :: L)) :
    SL P n W q ops Q (⟨dst, .alloc t, ty, pos, aft, gd⟩ :: rest) σ L := by
  refine SL_core hq (Nat.le_of_ble_eq_true rfl) hg hd fun w hw => ⟨_, _, _, ?_, hw.alloc t cs, fun _ => List.sublist_cons_self _ _, .inl rfl, h _⟩
  obtain ⟨i, v, h1, h2, h3⟩ := hz.fact
  simp [execOp, Instr.alloc, zeroValue, typeInfo, h1, h2, newVar, newRow, h3]

theorem blk_heap {w : World} {g : Nat} {t : TypeId} {cs : List Value} (hw : Mem W w L) (hm : blk g t cs ∈ L) : w.heap[g]? = some (.cells cs.toArray t (0, 0)) := (hw.ok _ hm).holds

theorem Mem.setRow {w : World} {g : Nat} {t : TypeId} {cs cs' : List Value} {L L' : List Ent} (h : Mem W w L) (hp : Put L (blk g t cs) (blk g t cs') L') : Mem W (w.setRow g cs'.toArray) L' := by
  have hh := blk_heap h hp.mem
  have hlt : g < w.heap.size := (Array.getElem?_eq_some_iff.1 hh).1
  refine h.put hp rfl rfl rfl (by simp [World.setRow]) (fun k _ hk => setRow_other w g k _ (fun e => hk e)) ⟨fun k hk => ?_, ?_⟩ (fun k hk => .inl hk)
  · have hk : k = g := hk
    subst hk; simpa [World.setRow] using hlt
  · exact setRow_heap w g cs.toArray cs'.toArray t (0, 0) hh

/-- A store of one cell. -/
theorem SL_store {a x : Operand} {t : Nat} [hO : OneT P t] {g k : Nat} {t' : TypeId} {cs : List Value} {v : Value} {L' : List Ent}
    (ha : ev σ a = .pointer (some ⟨g, k, none⟩)) (hx : ev σ x = v) (h1 : v.oneCell' = true) (hp : Put L (blk g t' cs) (blk g t' (cs.set k v)) L') (hk : k < cs.length)
    (hq : q.chg = true) (hkp : q.keeps L → q.keeps L') (hg : wantedσ ops σ ⟨none, .store t a x, ty, pos, aft, gd⟩ = true)
    (h : SL P n W q ops Q rest σ L') : SL P n W q ops Q (⟨none, .store t a x, ty, pos, aft, gd⟩ :: rest) σ L := by
  refine SL_coreS hq rfl hg rfl fun w hw => ⟨_, L', ?_, hw.setRow hp, hkp, h⟩
  obtain ⟨i, h2, h3⟩ := hO.size
  have hh := blk_heap hw hp.mem
  have hst := run_storeCells_at P g k t' [v] 0 cs.toArray w hh (by simp; omega) (by simpa using h1)
  have hcells : v.cells = #[v] := by cases v <;> first | rfl | cases h1
  have hset : (cs.toArray.toList.take (k + 0) ++ [v] ++ cs.toArray.toList.drop (k + 0 + [v].length)).toArray = (cs.set k v).toArray := by
    simp [List.set_eq_take_append_cons_drop, hk]
  rw [hset] at hst
  simp [execOp, ha, hx, Instr.storeAt, Instr.sureAddr, storeVar, sizeOf, typeInfo, h2, h3, hcells, hst]

/-- A store of a whole struct. -/
theorem SL_storeA {a x : Operand} {t s : Nat} [hO : AggT P t s] {g : Nat} {t' : TypeId} {cs vs : List Value} {L' : List Ent}
    (ha : ev σ a = .pointer (some ⟨g, 0, none⟩)) (hx : ev σ x = .agg vs.toArray) (h1 : (vs.all Value.oneCell') = true) (hl : vs.length = s) (hp : Put L (blk g t' cs) (blk g t' vs) L') (hk : cs.length = s)
    (hq : q.chg = true) (hkp : q.keeps L → q.keeps L') (hg : wantedσ ops σ ⟨none, .store t a x, ty, pos, aft, gd⟩ = true)
    (h : SL P n W q ops Q rest σ L') : SL P n W q ops Q (⟨none, .store t a x, ty, pos, aft, gd⟩ :: rest) σ L := by
  refine SL_coreS hq rfl hg rfl fun w hw => ⟨_, L', ?_, hw.setRow hp, hkp, h⟩
  obtain ⟨i, h2, h3⟩ := hO.info
  have hh := blk_heap hw hp.mem
  have hst := run_storeCells_at P g 0 t' vs 0 cs.toArray w hh (by simp; omega) (by simpa using h1)
  have hset : (cs.toArray.toList.take (0 + 0) ++ vs ++ cs.toArray.toList.drop (0 + 0 + vs.length)).toArray = vs.toArray := by
    have : cs.drop vs.length = [] := List.drop_eq_nil_of_le (by omega)
    simp [this]
  rw [hset] at hst
  simp [execOp, ha, hx, Instr.storeAt, Instr.sureAddr, storeVar, sizeOf, typeInfo, h2, h3, Value.cells, hl, hst]
end

/-! ### Structs built -/
def spliceL (cells : List Value) (off : Nat) (vs : List Value) : List Value := cells.take off ++ vs ++ cells.drop (off + vs.length)
def fillL (place : Nat → Option (Nat × Nat)) (cells : List Value) : List (Nat × Value) → Option (List Value)
  | [] => some cells
  | (i, v) :: r => match place i with
    | none => none
    | some (off, size) => if v.cells.toList.length ≠ size || off + v.cells.toList.length > cells.length then none else fillL place (spliceL cells off v.cells.toList) r

theorem foldl_splice (vs : List Value) : ∀ (k off : Nat) (cs : Array Value), off + k + vs.length ≤ cs.size →
    ((vs.zipIdx k).foldl (fun cs (x : Value × Nat) => cs.setIfInBounds (off + x.2) x.1) cs).toList = spliceL cs.toList (off + k) vs := by
  induction vs with
  | nil => intro k off cs h; simp [spliceL]
  | cons v r ih =>
    intro k off cs h
    simp only [List.zipIdx_cons, List.foldl_cons]
    rw [show k + 1 = (k + 1) from rfl, ih (k + 1) off _ (by simp at h ⊢; omega)]
    unfold spliceL
    simp only [List.length_cons] at h
    simp only [Array.toList_setIfInBounds, List.length_cons]
    rw [List.set_eq_take_append_cons_drop, if_pos (by simp; omega)]
    rw [show off + (k + 1) = off + k + 1 from by omega]
    have h1 : (cs.toList.take (off + k)).length = off + k := by simp; omega
    rw [List.take_append, List.drop_append, h1]
    have e1 : off + k + 1 - (off + k) = 1 := by omega
    have e2 : off + k + 1 + r.length - (off + k) = r.length + 1 := by omega
    rw [e1, e2]
    have e3 : (cs.toList.take (off + k)).take (off + k + 1) = cs.toList.take (off + k) := List.take_of_length_le (by rw [h1]; omega)
    have e4 : (cs.toList.take (off + k)).drop (off + k + 1 + r.length) = [] := List.drop_eq_nil_of_le (by rw [h1]; omega)
    rw [e3, e4]
    simp [List.drop_drop, Nat.add_comm, Nat.add_left_comm, Nat.add_assoc]

theorem fill_fillL (place : Nat → Option (Nat × Nat)) : ∀ (parts : List (Nat × Value)) (cells : Array Value),
    Instr.fill place cells parts = (fillL place cells.toList parts).map List.toArray
  | [], cells => by simp [Instr.fill, fillL]
  | (i, v) :: r, cells => by
    unfold Instr.fill fillL
    cases place i with
    | none => rfl
    | some p =>
      obtain ⟨off, size⟩ := p
      simp only [Array.length_toList]
      split
      · rfl
      · rename_i h
        rw [fill_fillL place r]
        congr 1
        have h2 : off + v.cells.size ≤ cells.size := by simp at h; omega
        have := foldl_splice v.cells.toList 0 off cells (by simpa using h2)
        simp only [Nat.add_zero] at this
        rw [← this]
        congr 2
        rw [← Array.foldl_toList, Array.toList_zipIdx]

def forceL : List Value → Option (List Value)
  | [] => some []
  | v :: r => match force v with
    | some v' => match forceL r with
      | some r' => some (v' :: r')
      | none => none
    | none => none
theorem forceL_eq : ∀ l : List Value, forceL l = some l
  | [] => rfl
  | v :: r => by simp only [forceL, force_eq, forceL_eq r]
theorem bind_forceL {o : Option (List Value)} {cs : List Value} (h : o.bind forceL = some cs) : o = some cs := by
  cases o with
  | none => cases h
  | some l => simpa [forceL_eq] using h

class StructT (P : Program) (t : Nat) (offs : outParam (List (Nat × Nat))) (zero : outParam (List Value)) : Prop where
  fact : ∃ fs, P.underlying t = some (.struct fs) ∧ ∀ w, ((fs.mapM fun f => Prod.mk f.offset <$> sizeOf f.type : Sem (Array (Nat × Nat)))).run P w = .ok offs.toArray w
  zero : ZeroT P t zero

section
variable {P : Program} {n : Nat} {W : World} {q : Md} {Q : Exit → St → List Ent → Prop} {σ : St} {L : List Ent} {ops : Array Oper} {rest : List Oper}
  {dst : Option Nat} {ty : TypeId} {pos : String} {aft : Array Edge} {gd : Option (Nat × Bool)}

theorem SL_build {t : Nat} {offs : List (Nat × Nat)} {zero : List Value} [hS : StructT P t offs zero] {parts : List (Nat × Operand)} {cs : List Value}
    (hf' : (fillL (offs[·]?) zero (parts.map fun p => (p.1, ev σ p.2))).bind forceL = some cs)
    (hg : wantedσ ops σ ⟨dst, .build t parts.toArray, ty, pos, aft, gd⟩ = true) (hd : dstOk n dst = true)
    (h : SL P n W q ops Q rest (updO σ dst (.agg cs.toArray)) L) :
    SL P n W q ops Q (⟨dst, .build t parts.toArray, ty, pos, aft, gd⟩ :: rest) σ L := by
  refine SL_valW _ (Nat.le_of_ble_eq_true rfl) hg hd (fun w => ?_) h
  have hf := bind_forceL hf'
  obtain ⟨fs, h1, h2⟩ := hS.fact
  obtain ⟨i, v, h3, h4, h5⟩ := hS.zero.fact
  have hfill : Instr.fill (offs.toArray[·]?) zero.toArray (parts.map fun p => (p.1, ev σ p.2)) = some cs.toArray := by
    rw [fill_fillL]; simp only [List.getElem?_toArray]; rw [hf]; rfl
  simp only [List.getElem?_toArray] at hfill
  have hz : (zeroValue t).run P w = .ok v w := by simp [zeroValue, typeInfo, h3, h4]
  simp [execOp, Instr.build, hz, run_underlying h1, h2, h5, hfill]
end

/-! ### Lists in memory -/
class Enc {α : Type} (enc : α → List Value) (size : outParam Nat) : Prop where
  len : ∀ x, (enc x).length = size
  one : ∀ x, ∀ v ∈ enc x, v.oneCell' = true

theorem flat_length {α : Type} {enc : α → List Value} {size : Nat} (h : ∀ x, (enc x).length = size) (l : List α) : (l.flatMap enc).length = l.length * size := by
  induction l with
  | nil => simp
  | cons x r ih => simp only [List.flatMap_cons, List.length_append, ih, h, List.length_cons, Nat.add_mul]; omega

theorem flat_get {α : Type} {enc : α → List Value} {size : Nat} (h : ∀ x, (enc x).length = size) : ∀ (l : List α) (i j : Nat) (x : α) (u : Value),
    l[i]? = some x → (enc x)[j]? = some u → (l.flatMap enc)[i * size + j]? = some u
  | [], _, _, _, _, h1, _ => by simp at h1
  | y :: r, 0, j, x, u, h1, h2 => by
    simp at h1; subst h1
    have : j < (enc y).length := (List.getElem?_eq_some_iff.1 h2).1
    rw [List.flatMap_cons, List.getElem?_append_left (by omega)]
    simpa using h2
  | y :: r, i + 1, j, x, u, h1, h2 => by
    simp at h1
    rw [List.flatMap_cons, List.getElem?_append_right (by rw [h y, Nat.add_mul]; omega)]
    have : (i + 1) * size + j - (enc y).length = i * size + j := by rw [h y, Nat.add_mul]; omega
    rw [this]
    exact flat_get h r i j x u h1 h2

/-- The other way: each cell of the flat list is a cell of some element. -/
theorem flat_at {α : Type} {enc : α → List Value} {size : Nat} (h : ∀ x, (enc x).length = size) (hs : 0 < size) {l : List α} {k : Nat} {u : Value}
    (hk : (l.flatMap enc)[k]? = some u) : ∃ x, l[k / size]? = some x ∧ (enc x)[k % size]? = some u := by
  have hlt : k < l.length * size := by rw [← flat_length h]; exact (List.getElem?_eq_some_iff.1 hk).1
  have hi : k / size < l.length := (Nat.div_lt_iff_lt_mul hs).2 hlt
  have hj : k % size < size := Nat.mod_lt _ hs
  obtain ⟨x, hx⟩ : ∃ x, l[k / size]? = some x := ⟨_, List.getElem?_eq_getElem hi⟩
  obtain ⟨v, hv⟩ : ∃ v, (enc x)[k % size]? = some v := ⟨_, List.getElem?_eq_getElem (by rw [h x]; exact hj)⟩
  have := flat_get h l _ _ x v hx hv
  rw [show k / size * size + k % size = k from by rw [Nat.mul_comm]; exact Nat.div_add_mod k size] at this
  rw [this] at hk
  cases hk
  exact ⟨x, hx, hv⟩

/-- A slice of the call's own, that may grow: it has no room at all, or it starts a block that nothing else reads. -/
def Own {α : Type} (e size : Nat) (enc : α → List Value) (A : Option Addr) (c : Nat) (l : List α) (w : World) : Prop :=
  (c = 0 ∧ l = []) ∨ ∃ g cur, 0 < c ∧ A = some ⟨g, 0, none⟩ ∧ w.heap[g]? = some (.cells cur e (0, 0)) ∧ l.length ≤ c ∧ c ≤ maxLen ∧ cur.size = c * size ∧ cur.toList.take (l.length * size) = l.flatMap enc

def rowT {α : Type} (e size : Nat) (enc : α → List Value) (A : Option Addr) (c : Nat) (l : List α) : Ent :=
  ⟨fun k => 0 < c ∧ ∃ a, A = some a ∧ a.block = k, Own e size enc A c l, fun w w' h hp => by
    rcases hp with hp | ⟨g, cur, hc, rfl, hg, r⟩
    · exact .inl hp
    · exact .inr ⟨g, cur, hc, rfl, (h g ⟨hc, _, rfl, rfl⟩).trans hg, r⟩⟩

section
variable {W : World} {L : List Ent} {α : Type} {enc : α → List Value} {size : Nat}

theorem Rd_of_cells {w : World} {g : Nat} {l : List α} (h : ∀ x, (enc x).length = size) (hc : ∀ j u, (l.flatMap enc)[j]? = some u → w.cell? ⟨g, j, none⟩ = some u) :
    Rd (some ⟨g, 0, none⟩) size enc l w := fun _ => ⟨g, 0, rfl, fun i j x u h1 h2 => by rw [Nat.zero_add]; exact hc _ u (flat_get h l i j x u h1 h2)⟩

theorem rowT_holds {w : World} {e : Nat} {A : Option Addr} {c : Nat} {l : List α} (h : (rowT e size enc A c l).p w) : Own e size enc A c l w := h

theorem Own.cap {w : World} {e : Nat} {A : Option Addr} {c : Nat} {l : List α} (h : Own e size enc A c l w) : l.length ≤ c ∧ c ≤ maxLen := by
  rcases h with ⟨rfl, rfl⟩ | ⟨g, cur, _, _, _, h5, h6, _⟩
  · exact ⟨Nat.le_refl _, by decide⟩
  · exact ⟨h5, h6⟩

theorem Own.rd [hE : Enc enc size] {w : World} {e : Nat} {A : Option Addr} {c : Nat} {l : List α} (h : Own e size enc A c l w) : Rd A size enc l w := by
  intro hne
  rcases h with ⟨_, h⟩ | ⟨g, cur, _, rfl, hg, _, _, _, ht⟩
  · exact absurd h hne
  · refine Rd_of_cells hE.len (fun j u hu => ?_) hne
    rw [cell_of_row w g j cur e (0, 0) hg, ← Array.getElem?_toList]
    rw [← ht, List.getElem?_take] at hu
    split at hu
    · exact hu
    · cases hu

theorem rowT_Rd [hE : Enc enc size] {e : Nat} {A : Option Addr} {c : Nat} {l : List α} (hm : rowT e size enc A c l ∈ L) : Knows W L (Rd A size enc l) :=
  fun _ hw => (rowT_holds (hw.ok _ hm).holds).rd

theorem rowT_cap {e : Nat} {A : Option Addr} {c : Nat} {l : List α} (hm : rowT e size enc A c l ∈ L) {w : World} (hw : Mem W w L) : l.length ≤ c ∧ c ≤ maxLen :=
  (rowT_holds (hw.ok _ hm).holds).cap

theorem blk_Rd [hE : Enc enc size] {g t : Nat} {cs : List Value} {l : List α} (hm : blk g t cs ∈ L) (hcs : cs = l.flatMap enc) : Knows W L (Rd (some ⟨g, 0, none⟩) size enc l) := by
  intro w hw
  have hh : w.heap[g]? = some (.cells cs.toArray t (0, 0)) := (hw.ok _ hm).holds
  refine Rd_of_cells hE.len fun j u hu => ?_
  rw [cell_of_row w g j cs.toArray t (0, 0) hh, hcs]
  simpa using hu

/-- A made block is a row. -/
theorem Mem.row_of_blk {w : World} [hE : Enc enc size] {g t : Nat} {cs : List Value} {l : List α} {L' : List Ent} (hw : Mem W w L) (hcs : cs = l.flatMap enc) (hmax : l.length ≤ maxLen)
    (hp : Put L (blk g t cs) (rowT t size enc (some ⟨g, 0, none⟩) l.length l) L') : Mem W w L' := by
  have hh : w.heap[g]? = some (.cells cs.toArray t (0, 0)) := (hw.ok _ hp.mem).holds
  have hlt : g < w.heap.size := (Array.getElem?_eq_some_iff.1 hh).1
  have hS : ∀ k, (rowT t size enc (some ⟨g, 0, none⟩) l.length l).S k → k = g := by
    rintro k ⟨_, a, ha, hk⟩
    cases ha; exact hk.symm
  refine hw.put hp rfl rfl rfl (Nat.le_refl _) (fun _ _ _ => rfl) ⟨fun k hk => by rw [hS k hk]; exact hlt, ?_⟩ (fun k hk => .inl (hS k hk))
  show Own t size enc (some ⟨g, 0, none⟩) l.length l w
  have hlen := flat_length hE.len l
  rcases Nat.eq_zero_or_pos l.length with h0 | h0
  · exact .inl ⟨h0, List.eq_nil_of_length_eq_zero h0⟩
  · refine .inr ⟨g, cs.toArray, h0, rfl, hh, Nat.le_refl _, hmax, by rw [hcs]; simpa using hlen, ?_⟩
    show cs.take _ = _
    rw [hcs, ← hlen, List.take_length]

/-- A slice without room is a row that lies nowhere. -/
theorem Mem.row_nil {w : World} (hw : Mem W w L) (e size : Nat) (enc : α → List Value) (A : Option Addr) : Mem W w (rowT e size enc A 0 [] :: L) := by
  have hS : ∀ k, ¬ (rowT e size enc A 0 ([] : List α)).S k := fun k hk => absurd hk.1 (by omega)
  refine hw.grow (es := [rowT e size enc A 0 []]) rfl rfl rfl (Nat.le_refl _) (fun _ _ => rfl) ?_ ?_ (by simp)
  · intro x hx
    have hx : x = rowT e size enc A 0 [] := by simpa using hx
    subst hx
    exact ⟨fun k hk => absurd hk (hS k), .inl ⟨rfl, rfl⟩⟩
  · intro x hx k hk
    have hx : x = rowT e size enc A 0 [] := by simpa using hx
    subst hx
    exact absurd hk (hS k)
end

section
variable {P : Program} {n : Nat} {W : World} {q : Md} {Q : Exit → St → List Ent → Prop} {σ : St} {L : List Ent} {ops : Array Oper} {rest : List Oper}
  {dst : Option Nat} {ty : TypeId} {pos : String} {aft : Array Edge} {gd : Option (Nat × Bool)} {α : Type} {enc : α → List Value}

/-! ### Slices of slices -/
theorem Rd.sub {A : Option Addr} {size : Nat} {xs : List α} {w : World} (h : Rd A size enc xs w) {lo hi m : Nat} (_hlo : lo ≤ hi) (hhi : hi ≤ xs.length) (hm : hi ≤ m) :
    Rd (if m = lo then A else A.map (·.add (lo * size))) size enc ((xs.take hi).drop lo) w := by
  intro hne
  have hlt : lo < hi := by
    rcases Nat.lt_or_ge lo hi with h | h
    · exact h
    · exact absurd (List.drop_eq_nil_of_le (by simp; omega)) hne
  obtain ⟨b, off, rfl, hc⟩ := h (by rintro rfl; simp at hne)
  rw [if_neg (by omega)]
  refine ⟨b, off + lo * size, by simp [Addr.add_lit], fun i j x u h1 h2 => ?_⟩
  rw [List.getElem?_drop, List.getElem?_take] at h1
  split at h1
  · have := hc (lo + i) j x u h1 h2
    rw [Nat.add_mul] at this
    rw [show off + lo * size + (i * size + j) = off + (lo * size + i * size + j) from by omega]
    exact this
  · cases h1

theorem run_size {t e s b : Nat} [hT : SliceT P t e s b] (w : World) : (sizeOf e).run P w = .ok s w := by
  obtain ⟨inf, z, hinf, -, hs, -, -⟩ := hT.info
  simp [sizeOf, typeInfo, hinf, hs]

theorem sub_length {xs : List α} {lo hi : Nat} (hhi : hi ≤ xs.length) : ((xs.take hi).drop lo).length = hi - lo := by simp; omega

/-- The one law of 'x[lo:hi:m]'. -/
theorem SL_slice {x : Operand} {lo hi mx : Option Operand} {t : TypeId} {A : Option Addr} {c l h m : Nat} {e s b : Nat} [hT : SliceT P t e s b] {xs : List α}
    (hx : ev σ x = .slice A xs.length c) (hb : ∀ w, (Instr.sliceBounds true xs.length c (lo.map (ev σ)) (hi.map (ev σ)) (mx.map (ev σ))).run P w = .ok (l, h, m) w)
    (hl : l ≤ h) (hh : h ≤ xs.length) (hm : h ≤ m) (hk : Knows W L (Rd A s enc xs))
    (hg : wantedσ ops σ ⟨dst, .slice t x lo hi mx, ty, pos, aft, gd⟩ = true) (hd : dstOk n dst = true)
    (H : ∀ A' c', ((xs.take h).drop l).length ≤ c' → c' = m - l → Knows W L (Rd A' s enc ((xs.take h).drop l)) →
      SL P n W q ops Q rest (updO σ dst (.slice A' ((xs.take h).drop l).length c')) L) :
    SL P n W q ops Q (⟨dst, .slice t x lo hi mx, ty, pos, aft, gd⟩ :: rest) σ L := by
  refine SL_val _ rfl hg hd (fun w hw => ?_) (H (if m = l then A else A.map (·.add (l * s))) (m - l) (by rw [sub_length hh]; omega) rfl (hk.mono fun w hw => hw.sub hl hh hm))
  have hsz := run_size (P := P) (t := t) w
  simp only [execOp, hx, Instr.sliceAt, Instr.slice, Sem.run_bind, run_underlying hT.ul, Result.andThen_ok, hb, hsz, Sem.run_pure, sub_length hh]

theorem bounds_h {len cap : Nat} {h : Nat} (hh : h ≤ cap) (w : World) : (Instr.sliceBounds true len cap none (some (.int .i64 (h : Int))) none).run P w = .ok (0, h, cap) w := by
  simp [Instr.sliceBounds, Instr.sliceBound, asIntOf, hh]
theorem bounds_l {len cap : Nat} {l : Nat} (hh : l ≤ len) (w : World) : (Instr.sliceBounds true len cap (some (.int .i64 (l : Int))) none none).run P w = .ok (l, len, cap) w := by
  simp [Instr.sliceBounds, Instr.sliceBound, asIntOf, hh]
theorem bounds_lc {len cap : Nat} {l : Nat} (hh : l ≤ len) (w : World) : (Instr.sliceBounds true len cap (some (.int .i64 (l : Int))) none none).run P w = .ok (l, len, cap) w := bounds_l hh w
theorem bounds_lh {len cap : Nat} {l h : Nat} (h1 : l ≤ h) (hh : h ≤ cap) (w : World) : (Instr.sliceBounds true len cap (some (.int .i64 (l : Int))) (some (.int .i64 (h : Int))) none).run P w = .ok (l, h, cap) w := by
  simp [Instr.sliceBounds, Instr.sliceBound, asIntOf, hh, h1]
theorem bounds_hm {len cap : Nat} {h m : Nat} (h1 : h ≤ m) (hh : m ≤ cap) (w : World) : (Instr.sliceBounds true len cap none (some (.int .i64 (h : Int))) (some (.int .i64 (m : Int)))).run P w = .ok (0, h, m) w := by
  simp [Instr.sliceBounds, Instr.sliceBound, asIntOf, hh, h1]
theorem bounds_lhm {len cap : Nat} {l h m : Nat} (h0 : l ≤ h) (h1 : h ≤ m) (hh : m ≤ cap) (w : World) : (Instr.sliceBounds true len cap (some (.int .i64 (l : Int))) (some (.int .i64 (h : Int))) (some (.int .i64 (m : Int)))).run P w = .ok (l, h, m) w := by
  simp [Instr.sliceBounds, Instr.sliceBound, asIntOf, hh, h1, h0]

/-! ### Slices made -/
theorem SL_buildSlice {t len : Nat} {e s b : Nat} [hT : SliceT P t e s b] {zero : List Value} [hz : ZeroT P e zero] {parts : List (Nat × Operand)} {cs : List Value}
    (hbig : len * s ≤ 16777216) (hf' : (fillL (fun i => some (i * s, s)) ((List.replicate len zero).flatten) (parts.map fun p => (p.1, ev σ p.2))).bind forceL = some cs) (hzl : zero.length = s)
    (hq : q.chg = true) (hg : wantedσ ops σ ⟨dst, .buildSlice t len parts.toArray, ty, pos, aft, gd⟩ = true) (hd : dstOk n dst = true)
    (h : ∀ g : Nat, SL P n W q ops Q rest (updO σ dst (.slice (some ⟨g, 0, none⟩) len len)) (blk g e cs :: L)) :
    SL P n W q ops Q (⟨dst, .buildSlice t len parts.toArray, ty, pos, aft, gd⟩ :: rest) σ L := by
  have hf := bind_forceL hf'
  refine SL_core hq (Nat.le_of_ble_eq_true rfl) hg hd fun w hw => ⟨_, _, _, ?_, hw.alloc e cs, fun _ => List.sublist_cons_self _ _, .inl rfl, h _⟩
  obtain ⟨i, v, h3, h4, h5⟩ := hz.fact
  have hsz := run_size (P := P) (t := t) w
  have hzv : (zeroValue e).run P w = .ok v w := by simp [zeroValue, typeInfo, h3, h4]
  have hpos := hT.pos
  have hzc : ((Array.range (len * s)).map (zero.toArray[· % zero.toArray.size]!)).toList = (List.replicate len zero).flatten := by
    apply List.ext_getElem?
    intro k
    have hfl : ∀ (m k : Nat), (List.replicate m zero).flatten[k]? = if k < m * s then some (zero.toArray[k % zero.length]!) else none := by
      intro m
      induction m with
      | zero => intro k; simp
      | succ m ih =>
        intro k
        rw [List.replicate_succ, List.flatten_cons]
        by_cases hk : k < s
        · rw [List.getElem?_append_left (by omega), if_pos (by rw [Nat.add_mul]; omega), List.getElem?_eq_getElem (by omega)]
          simp [hzl, Nat.mod_eq_of_lt hk, hk]
        · rw [List.getElem?_append_right (by omega), ih]
          have e1 : (k - zero.length < m * s) ↔ (k < (m + 1) * s) := by rw [Nat.add_mul]; omega
          have e2 : (k - zero.length) % zero.length = k % zero.length := by
            conv => rhs; rw [show k = (k - zero.length) + zero.length from by omega]
            simp
          simp only [e1, e2]
    rw [hfl]
    simp only [Array.toList_map, Array.toList_range, List.getElem?_map, List.size_toArray]
    split <;> rename_i hk
    · simp [hk]
    · simp [hk]
  have hfill : Instr.fill (fun i => some (i * s, s)) ((Array.range (len * s)).map (zero.toArray[· % zero.toArray.size]!)) (parts.map fun p => (p.1, ev σ p.2)) = some cs.toArray := by
    rw [fill_fillL, hzc, hf]; rfl
  by_cases h0 : len * s = 0
  · have ez : ∀ f : Nat → Value, (Array.range (len * s)).map f = #[] := by intro f; apply Array.eq_empty_of_size_eq_zero; simp [h0]
    rw [ez] at hfill
    simp only [List.map_toArray, execOp, Instr.buildSlice, Sem.run_bind, run_underlying hT.ul, Result.andThen_ok, hsz]
    rw [if_neg (by omega), if_pos h0]
    simp only [Sem.run_bind, Sem.run_pure, Result.andThen_ok, ez, hfill]
    simp [newRow]
  · have hno : ¬ (len * s > 2 ^ 24) := by omega
    simp only [List.map_toArray, execOp, Instr.buildSlice, Sem.run_bind, run_underlying hT.ul, Result.andThen_ok, hsz]
    rw [if_neg hno, if_neg h0]
    simp only [Sem.run_bind, Sem.run_pure, Result.andThen_ok, hzv, h5]
    simp only [hfill]
    simp [newRow]
end

section
variable {P : Program} {n : Nat} {W : World} {q : Md} {Q : Exit → St → List Ent → Prop} {σ : St} {L : List Ent} {ops : Array Oper} {rest : List Oper}
  {dst : Option Nat} {ty : TypeId} {pos : String} {aft : Array Edge} {gd : Option (Nat × Bool)} {α : Type} {enc : α → List Value}

theorem SL_makeSlice {t : Nat} {e s b : Nat} [hT : SliceT P t e s b] {zero : List Value} [hz : ZeroT P e zero] {x y : Operand} {N : Nat}
    (hx : ev σ x = .int .i64 (N : Int)) (hy : ev σ y = .int .i64 (N : Int)) (hb : N * b ≤ 140737488355328) (hN : N ≤ maxLen) (hzl : zero.length = s)
    (hq : q.chg = true) (hg : wantedσ ops σ ⟨dst, .makeSlice t x y, ty, pos, aft, gd⟩ = true) (hd : dstOk n dst = true)
    (h : ∀ g : Nat, SL P n W q ops Q rest (updO σ dst (.slice (some ⟨g, 0, none⟩) N N)) (blk g e ((List.replicate N zero).flatten) :: L)) :
    SL P n W q ops Q (⟨dst, .makeSlice t x y, ty, pos, aft, gd⟩ :: rest) σ L := by
  refine SL_core hq (Nat.le_of_ble_eq_true rfl) hg hd fun w hw => ⟨_, _, _, ?_, hw.alloc e _, fun _ => List.sublist_cons_self _ _, .inl rfl, h _⟩
  obtain ⟨inf, z, h1, h2, h3, h4, h5⟩ := hT.info
  obtain ⟨i', v, g3, g4, g5⟩ := hz.fact
  rw [h1] at g3; cases g3
  rw [h2] at g4; cases g4
  have hbb : (inf.bytes : Int) * (N : Int) ≤ 281474976710656 := by
    have : ((inf.bytes * N : Nat) : Int) ≤ 281474976710656 := by rw [h4, Nat.mul_comm]; omega
    rwa [Int.natCast_mul] at this
  have hmx : (N : Int) ≤ 9223372036854775807 := by unfold maxLen at hN; omega
  have hr := run_make (P := P) w t e inf z hT.ul h1 h2 .i64 .i64 N N (by omega) (Int.le_refl _) hbb hmx
  have hpos := hT.pos
  have hcells : madeCells z.cells ((N : Int).toNat * inf.size) = ((List.replicate N zero).flatten).toArray := by
    apply Array.ext'
    apply List.ext_getElem?
    intro k
    have hfl : ∀ (m k : Nat), (List.replicate m zero).flatten[k]? = if k < m * s then some (zero.toArray[k % zero.length]!) else none := by
      intro m
      induction m with
      | zero => intro k; simp
      | succ m ih =>
        intro k
        rw [List.replicate_succ, List.flatten_cons]
        by_cases hk : k < s
        · rw [List.getElem?_append_left (by omega), if_pos (by rw [Nat.add_mul]; omega), List.getElem?_eq_getElem (by omega)]
          simp [hzl, Nat.mod_eq_of_lt hk, hk]
        · rw [List.getElem?_append_right (by omega), ih]
          have e1 : (k - zero.length < m * s) ↔ (k < (m + 1) * s) := by rw [Nat.add_mul]; omega
          have e2 : (k - zero.length) % zero.length = k % zero.length := by
            conv => rhs; rw [show k = (k - zero.length) + zero.length from by omega]
            simp
          simp only [e1, e2]
    rw [hfl, g5, h3]
    simp only [madeCells, Int.toNat_natCast, Array.toList_map, Array.toList_range, List.getElem?_map, List.size_toArray]
    split <;> rename_i hk
    · simp [hk]
    · simp [hk]
  rw [hcells] at hr
  simp only [execOp, hx, hy, Sem.run_bind, hr, Result.andThen_ok, Int.toNat_natCast, Sem.run_pure]

/-! ### append -/
theorem run_append_none (w : World) (base : Nat) (t ty e : TypeId) (i : TypeInfo) (size : Nat) (ht : P.underlying t = some (.slice e)) (hi : P.info? e = some i)
    (v : Value) (m : Nat) (xs : List Value) (hown : w.ownsRow base e size v m xs) (c : Nat) : (Builtin.append_ #[t, t] ty #[v, .slice none 0 c]).run P w = .ok v w := by
  rcases hown.2 with ⟨rfl, rfl⟩ | ⟨g, cap, cur, rfl, _, _, hnc, _⟩
  · simp [Builtin.append_, run_underlying ht, sizeOf, typeInfo, hi, Builtin.lenOf, Builtin.firstCells]
  · simp [Builtin.append_, run_underlying ht, sizeOf, typeInfo, hi, Builtin.lenOf, Builtin.firstCells, hnc, storeCells]

theorem grown_os {w w' : World} {r : Option Nat} (h : w.grownBy w' r) : w'.os = w.os := h.os

theorem run_append_zero {w : World} {t ty e : TypeId} {i : TypeInfo} {z : Value} (ht : P.underlying t = some (.slice e)) (hi : P.info? e = some i) (hz : i.zero = some z)
    (b : Addr) (B : Option Addr) (m d : Nat) (news : List Value) (hl : news.length = m * i.size) (hB : B = none → m = 0) (hnews : ∀ a, B = some a → ∀ j u, news[j]? = some u → w.cell? (a.add j) = some u)
    (h63 : (m : Int) ≤ 9223372036854775807) (hb : m * i.bytes ≤ 140737488355328) (hm : 0 < m) :
    (Builtin.append_ #[t, t] ty #[.slice (some b) 0 0, .slice B m d]).run P w = (Builtin.append_ #[t, t] ty #[.slice none 0 0, .slice B m d]).run P w := by
  cases B with
  | none => have := hB rfl; omega
  | some a =>
    have h1 := run_append_nil (P := P) w t ty e i z ht hi hz a m d news hl (hnews a rfl) hm h63 (by omega)
    have h2 := run_append_grow (P := P) w t ty e i z ht hi hz b 0 0 [] (by simp) (by simp) a m d news hl (hnews a rfl) (by omega) (by simpa using h63) (growslice_fits (by omega) (by simpa using hb))
    rw [h1, h2]
    simp

/-- 'x = append(x, y...)' on a row of the call's own. -/
theorem SL_append {t : Nat} {e s b : Nat} [hT : SliceT P t e s b] [hE : Enc enc s] {x y : Operand} {A B : Option Addr} {c d : Nat} {l news : List α} {L' : Option Addr → Nat → List Ent}
    (hx : ev σ x = .slice A l.length c) (hy : ev σ y = .slice B news.length d) (hk : Knows W L (Rd B s enc news))
    (hp : ∀ A' c', Put L (rowT e s enc A c l) (rowT e s enc A' c' (l ++ news)) (L' A' c'))
    (hb : (l.length + news.length) * b ≤ 140737488355328) (hmx : l.length + news.length ≤ maxLen)
    (hq : q.chg = true) (hkp : ∀ A' c', q.keeps L → q.keeps (L' A' c')) (hg : wantedσ ops σ ⟨dst, .call { callee := .builtin .append, args := #[x, y], argTypes := #[t, t] }, ty, pos, aft, gd⟩ = true) (hd : dstOk n dst = true)
    (h : ∀ A' c', SL P n W q ops Q rest (updO σ dst (.slice A' (l ++ news).length c')) (L' A' c')) :
    SL P n W q ops Q (⟨dst, .call { callee := .builtin .append, args := #[x, y], argTypes := #[t, t] }, ty, pos, aft, gd⟩ :: rest) σ L := by
  refine SL_core hq (Nat.le_of_ble_eq_true rfl) hg hd fun w hw => ?_
  obtain ⟨inf, z, h1, h2, h3, h4, h5⟩ := hT.info
  have hm := (hp A c).mem
  have hown := rowT_holds (hw.ok _ hm).holds
  have hlen := flat_length hE.len news
  have hkw := hk w hw
  have hcells : ∀ a, B = some a → ∀ j u, (news.flatMap enc)[j]? = some u → w.cell? (a.add j) = some u := by
    intro a ha j u hu
    obtain ⟨x, hx1, hx2⟩ := flat_at hE.len hT.pos hu
    obtain ⟨b0, off, hB, hc⟩ := hkw (by rintro rfl; simp at hx1)
    rw [hB] at ha; cases ha
    have := hc _ _ x u hx1 hx2
    rw [show j / s * s + j % s = j from by rw [Nat.mul_comm]; exact Nat.div_add_mod j s] at this
    rw [Addr.add_lit]; exact this
  have hone : ∀ u ∈ news.flatMap enc, u.oneCell' = true := fun u hu => by obtain ⟨x, _, hx⟩ := List.mem_flatMap.1 hu; exact hE.one x u hx
  have hBn : B = none → news = [] := fun h => by
    rcases Classical.em (news = []) with h' | h'
    · exact h'
    · obtain ⟨_, _, hB, _⟩ := hkw h'; rw [h] at hB; cases hB
  -- the run on what owns its row
  have key : ∀ (v0 : Value), w.ownsRow 0 e s v0 l.length (l.flatMap enc) → ∃ v' w', (Builtin.append_ #[t, t] ty #[v0, .slice B news.length d]).run P w = .ok v' w' ∧
      w'.ownsRow 0 e s v' (l.length + news.length) (l.flatMap enc ++ news.flatMap enc) ∧ w.grownBy w' v0.ownBlock ∧ (v'.ownBlock = v0.ownBlock ∨ v'.ownBlock = some w.heap.size) := by
    intro v0 ho
    cases B with
    | none =>
      have hn := hBn rfl
      subst hn
      exact ⟨_, w, by simpa using run_append_none w 0 t ty e inf s hT.ul h1 _ _ _ ho d, by simpa using ho, World.grownBy.refl w _, .inl rfl⟩
    | some a =>
      obtain ⟨v', w', hr, ho', hgr, -, hbk⟩ := run_append_own_at (P := P) w 0 t ty e inf z s b hT.ul h1 h2 h3 h4 h5 hT.pos _ _ _ ho a news.length d (news.flatMap enc) hlen (hcells a rfl) hone hmx hb (Nat.zero_le _)
      exact ⟨v', w', hr, ho', hgr, hbk⟩
  have fin : ∀ (v0 v' : Value) (w' : World), (Builtin.append_ #[t, t] ty #[.slice A l.length c, .slice B news.length d]).run P w = .ok v' w' → w'.ownsRow 0 e s v' (l.length + news.length) (l.flatMap enc ++ news.flatMap enc) →
      w.grownBy w' v0.ownBlock → (v'.ownBlock = v0.ownBlock ∨ v'.ownBlock = some w.heap.size) → (∀ k, v0.ownBlock = some k → (rowT e s enc A c l).S k) →
      ∃ v w' L'', (execOp (ev σ) ⟨dst, .call { callee := .builtin .append, args := #[x, y], argTypes := #[t, t] }, ty, pos, aft, gd⟩).run P w = .ok (.value v) w' ∧ Mem W w' L'' ∧
        (kindOf (Oper.op ⟨dst, .call { callee := .builtin .append, args := #[x, y], argTypes := #[t, t] }, ty, pos, aft, gd⟩) = 2 → L.Sublist L'') ∧ (kindOf (Oper.op ⟨dst, .call { callee := .builtin .append, args := #[x, y], argTypes := #[t, t] }, ty, pos, aft, gd⟩) = 2 ∨ (q.keeps L → q.keeps L'')) ∧ SL P n W q ops Q rest (updO σ (Oper.dst ⟨dst, .call { callee := .builtin .append, args := #[x, y], argTypes := #[t, t] }, ty, pos, aft, gd⟩) v) L'' := by
    intro v0 v' w' hr ho hgr hbk hS0
    obtain ⟨A', c', hv', hO⟩ : ∃ A' c', v' = .slice A' (l ++ news).length c' ∧ Own e s enc A' c' (l ++ news) w' := by
      rcases ho.2 with ⟨rfl, h0⟩ | ⟨g, cap, cur, rfl, _, hgg, h6, h7, h8, h9⟩
      · exact ⟨none, 0, by rw [List.length_append, h0], .inl ⟨rfl, List.eq_nil_of_length_eq_zero (by rw [List.length_append, h0])⟩⟩
      · refine ⟨some ⟨g, 0, none⟩, cap, by rw [List.length_append], ?_⟩
        rcases Nat.eq_zero_or_pos cap with h0 | h0
        · exact .inl ⟨h0, List.eq_nil_of_length_eq_zero (by rw [List.length_append]; omega)⟩
        · exact .inr ⟨g, cur, h0, rfl, hgg, by rw [List.length_append]; exact h6, h7, h8, by rw [List.length_append, List.flatMap_append]; exact h9⟩
    subst hv'
    refine ⟨_, w', _, ?_, ?_, fun h2 => (by cases h2), .inr (hkp A' c'), h A' c'⟩
    · simp only [execOp, resolve, List.map_toArray, List.map_cons, List.map_nil, hx, hy, Sem.run_bind, Sem.run_pure, Result.andThen_ok, invoke, builtin, hr]
    · have hown' : ∀ k, (rowT e s enc A' c' (l ++ news)).S k → (Value.slice A' (l ++ news).length c').ownBlock = some k := by
        rintro k ⟨_, a, rfl, rfl⟩; rfl
      have hS : ∀ k, (rowT e s enc A' c' (l ++ news)).S k → (rowT e s enc A c l).S k ∨ w.heap.size ≤ k := by
        intro k hk
        have hk' := hown' k hk
        rcases hbk with hbk | hbk
        · left; exact hS0 k (by rw [← hbk]; exact hk')
        · right; rw [hbk] at hk'; cases hk'; omega
      refine hw.put (hp A' c') hgr.os hgr.tape hgr.output hgr.size (fun k hk hnk => hgr.block k hk (fun e => hnk (hS0 k e.symm))) ⟨fun k hk => ?_, hO⟩ hS
      exact (ho.lt k (hown' k hk)).2
  rcases hown with ⟨hc0, hl0⟩ | ⟨g, cur, hc0, hA, hgg, h6, h7, h8, h9⟩
  · subst hc0; subst hl0
    have hnil : w.ownsRow 0 e s (.slice none 0 0) ([] : List α).length (([] : List α).flatMap enc) := World.ownsRow_nil w 0 e s
    cases A with
    | none =>
      obtain ⟨v', w', hr, ho, hgr, hbk⟩ := key _ hnil
      exact fin (.slice none 0 0) v' w' hr ho hgr hbk (fun k hk => by cases hk)
    | some a0 =>
      rcases Nat.eq_zero_or_pos news.length with hn0 | hn0
      · have hn : news = [] := List.eq_nil_of_length_eq_zero hn0
        have hr : (Builtin.append_ #[t, t] ty #[.slice (some a0) 0 0, .slice B news.length d]).run P w = .ok (.slice (some a0) 0 0) w := by
          rw [hn]
          cases B with
          | none => simp [Builtin.append_, run_underlying hT.ul, sizeOf, typeInfo, h1, Builtin.lenOf, Builtin.firstCells, storeCells]
          | some b0 => simp [Builtin.append_, run_underlying hT.ul, sizeOf, typeInfo, h1, Builtin.lenOf, Builtin.firstCells, storeCells, loadCells, loadCellsFrom]
        have hl : (([] : List α) ++ news).length = 0 := by rw [hn]; rfl
        refine ⟨.slice (some a0) (([] : List α) ++ news).length 0, w, _, ?_, ?_, fun h2 => (by cases h2), .inr (hkp (some a0) 0), h (some a0) 0⟩
        · rw [hl]
          simp only [execOp, resolve, List.map_toArray, List.map_cons, List.map_nil, hx, hy, Sem.run_bind, Sem.run_pure, Result.andThen_ok, invoke, builtin, List.length_nil, hr]
        · refine hw.put (hp (some a0) 0) rfl rfl rfl (Nat.le_refl _) (fun _ _ _ => rfl) ⟨fun k hk => absurd hk.1 (by omega), .inl ⟨rfl, by rw [hn]; rfl⟩⟩ (fun k hk => absurd hk.1 (by omega))
      · obtain ⟨v', w', hr, ho, hgr, hbk⟩ := key _ hnil
        have hz := run_append_zero (P := P) (w := w) (ty := ty) hT.ul h1 h2 a0 B news.length d (news.flatMap enc) (by rw [h3]; exact hlen) (fun h => by rw [hBn h] at hn0; simp at hn0) hcells (by unfold maxLen at hmx; omega)
          (by rw [h4]; have hb' := hb; simp only [List.length_nil, Nat.zero_add] at hb'; exact hb') hn0
        exact fin (.slice none 0 0) v' w' (hz.trans hr) ho hgr hbk (fun k hk => by cases hk)
  · subst hA
    have ho : w.ownsRow 0 e s (.slice (some ⟨g, 0, none⟩) l.length c) l.length (l.flatMap enc) := ⟨flat_length hE.len l, .inr ⟨g, c, cur, rfl, Nat.zero_le _, hgg, h6, h7, h8, h9⟩⟩
    obtain ⟨v', w', hr, ho', hgr, hbk⟩ := key _ ho
    exact fin _ v' w' hr ho' hgr hbk (fun k hk => ⟨hc0, _, rfl, by simpa [Value.ownBlock] using hk⟩)
end

section
variable {P : Program} {n : Nat} {W : World} {q : Md} {Q : Exit → St → List Ent → Prop} {σ : St} {L : List Ent} {ops : Array Oper} {rest : List Oper}
  {dst : Option Nat} {ty : TypeId} {pos : String} {aft : Array Edge} {gd : Option (Nat × Bool)} {α : Type}
/-- '[]T{}': a row without room. -/
theorem SL_buildEmpty {t : Nat} {e s b : Nat} [hT : SliceT P t e s b] (enc : α → List Value)
    (hq : q.chg = true) (hg : wantedσ ops σ ⟨dst, .buildSlice t 0 #[], ty, pos, aft, gd⟩ = true) (hd : dstOk n dst = true)
    (h : ∀ A, SL P n W q ops Q rest (updO σ dst (.slice A ([] : List α).length 0)) (rowT e s enc A 0 ([] : List α) :: L)) :
    SL P n W q ops Q (⟨dst, .buildSlice t 0 #[], ty, pos, aft, gd⟩ :: rest) σ L := by
  refine SL_core hq (Nat.le_of_ble_eq_true rfl) hg hd fun w hw => ⟨.slice (some ⟨w.heap.size, 0, none⟩) 0 0, w.alloc (.cells #[] e), rowT e s enc (some ⟨w.heap.size, 0, none⟩) 0 ([] : List α) :: L, ?_, ?_, fun _ => List.sublist_cons_self _ _, .inl rfl, h _⟩
  · have hsz := run_size (P := P) (t := t) w
    simp only [execOp, Instr.buildSlice, Sem.run_bind, run_underlying hT.ul, Result.andThen_ok, hsz]
    simp [newRow, Instr.fill]
    rw [show (Array.map (fun _ => (default : Value)) (Array.range 0)) = #[] from by apply Array.eq_empty_of_size_eq_zero; simp]
  · exact (Mem.tail (hw.alloc e [])).row_nil e s enc _

/-- A variable that is declared and holds no slice yet: a row without room. -/
theorem SC.row_nil {c : Code} (e s : Nat) (enc : α → List Value) (A : Option Addr) (h : SC P n W c Q σ (rowT e s enc A 0 ([] : List α) :: L)) : SC P n W c Q σ L :=
  h.weaken fun _ hw => hw.row_nil e s enc A
theorem SL.row_nil {l : List Oper} (e s : Nat) (enc : α → List Value) (A : Option Addr) (h : SL P n W .plain ops Q l σ (rowT e s enc A 0 ([] : List α) :: L)) : SL P n W .plain ops Q l σ L :=
  h.weaken fun _ hw => hw.row_nil e s enc A

/-- A piece that says nothing. -/
def triv : Ent := ⟨fun _ => False, fun _ => True, fun _ _ _ h => h⟩
theorem Mem.triv {w : World} (hw : Mem W w L) : Mem W w (triv :: L) := by
  refine hw.grow (es := [Go.Proofs.Ytfcljepagnipaaa.triv]) rfl rfl rfl (Nat.le_refl _) (fun _ _ => rfl) ?_ ?_ (by simp)
  · intro x hx
    have hx : x = Go.Proofs.Ytfcljepagnipaaa.triv := by simpa using hx
    subst hx
    exact ⟨fun _ h => h.elim, trivial⟩
  · intro x hx k hk
    have hx : x = Go.Proofs.Ytfcljepagnipaaa.triv := by simpa using hx
    subst hx
    exact hk.elim
theorem SC.triv {c : Code} (h : SC P n W c Q σ (triv :: L)) : SC P n W c Q σ L := h.weaken fun _ hw => hw.triv
end

/-! ### copy into a block of the call's own -/
section
variable {P : Program} {n : Nat} {W : World} {q : Md} {Q : Exit → St → List Ent → Prop} {σ : St} {L : List Ent} {ops : Array Oper} {rest : List Oper}
  {dst : Option Nat} {ty : TypeId} {pos : String} {aft : Array Edge} {gd : Option (Nat × Bool)} {α : Type} {enc : α → List Value}

/-- 'x[l:]' where x is a whole block of the call's own. -/
theorem SL_sliceOwn {x lo : Operand} {t : TypeId} {g N l : Nat} {e s b : Nat} [hT : SliceT P t e s b]
    (hx : ev σ x = .slice (some ⟨g, 0, none⟩) N N) (hlo : ev σ lo = .int .i64 (l : Int)) (hl : l ≤ N)
    (hg : wantedσ ops σ ⟨dst, .slice t x (some lo) none none, ty, pos, aft, gd⟩ = true) (hd : dstOk n dst = true)
    (H : ∀ o, (l < N → o = l * s) → (l = N → o = 0) → SL P n W q ops Q rest (updO σ dst (.slice (some ⟨g, o, none⟩) (N - l) (N - l))) L) :
    SL P n W q ops Q (⟨dst, .slice t x (some lo) none none, ty, pos, aft, gd⟩ :: rest) σ L := by
  refine SL_val _ rfl hg hd (fun w hw => ?_) (H (if N = l then 0 else l * s) (fun h => by rw [if_neg (by omega)]) (fun h => by rw [if_pos h.symm]))
  have hsz := run_size (P := P) (t := t) w
  simp only [execOp, hx, hlo, Option.map_some, Option.map_none, Instr.sliceAt, Instr.slice, Sem.run_bind, run_underlying hT.ul, Result.andThen_ok, bounds_l hl, hsz, Sem.run_pure]
  split
  · rfl
  · simp [Addr.add_lit]

theorem SL_copy {t t' : Nat} {e s b : Nat} [hT : SliceT P t e s b] [hE : Enc enc s] {x y : Operand} {g o dl dc : Nat} {B : Option Addr} {d te : Nat} {news : List α} {cs : List Value} {L' : List Ent}
    (hx : ev σ x = .slice (some ⟨g, o, none⟩) dl dc) (hy : ev σ y = .slice B news.length d) (hk : Knows W L (Rd B s enc news)) (hfit : news.length ≤ dl) (ho : o + news.length * s ≤ cs.length)
    (hp : Put L (blk g te cs) (blk g te (spliceL cs o (news.flatMap enc))) L')
    (hq : q.chg = true) (hkp : q.keeps L → q.keeps L') (hg : wantedσ ops σ ⟨dst, .call { callee := .builtin .copy, args := #[x, y], argTypes := #[t, t'] }, ty, pos, aft, gd⟩ = true) (hd : dstOk n dst = true)
    (h : SL P n W q ops Q rest (updO σ dst (.int .i64 (news.length : Int))) L') :
    SL P n W q ops Q (⟨dst, .call { callee := .builtin .copy, args := #[x, y], argTypes := #[t, t'] }, ty, pos, aft, gd⟩ :: rest) σ L := by
  refine SL_core hq (Nat.le_of_ble_eq_true rfl) hg hd fun w hw => ⟨_, _, L', ?_, hw.setRow hp, fun h2 => (by cases h2), .inr hkp, h⟩
  have hlen := flat_length hE.len news
  have hsz := run_size (P := P) (t := t) w
  have hh := blk_heap hw hp.mem
  have hmin : Nat.min news.length dl = news.length := Nat.min_eq_left hfit
  have hone : ∀ u ∈ news.flatMap enc, u.oneCell' = true := fun u hu => by obtain ⟨x, _, hx⟩ := List.mem_flatMap.1 hu; exact hE.one x u hx
  have hst := run_storeCells_at P g o te (news.flatMap enc) 0 cs.toArray w hh (by rw [hlen]; simpa using ho) hone
  have hfc : (Builtin.firstCells s news.length (.slice B news.length d)).run P w = .ok (news.flatMap enc).toArray w := by
    cases B with
    | none =>
      have hn : news = [] := by
        rcases Classical.em (news = []) with h' | h'
        · exact h'
        · obtain ⟨_, _, hB, _⟩ := hk w hw h'; cases hB
      subst hn
      simp [Builtin.firstCells]
    | some a =>
      refine run_firstCells_some (P := P) w s news.length a news.length d (news.flatMap enc) hlen fun j u hu => ?_
      obtain ⟨x, hx1, hx2⟩ := flat_at hE.len hT.pos hu
      obtain ⟨b0, off, hB, hc⟩ := hk w hw (by rintro rfl; simp at hx1)
      cases hB
      have := hc _ _ x u hx1 hx2
      rw [show j / s * s + j % s = j from by rw [Nat.mul_comm]; exact Nat.div_add_mod j s] at this
      rw [Addr.add_lit]; exact this
  have hset : (cs.toArray.toList.take (o + 0) ++ news.flatMap enc ++ cs.toArray.toList.drop (o + 0 + (news.flatMap enc).length)).toArray = (spliceL cs o (news.flatMap enc)).toArray := by simp [spliceL]
  rw [hset] at hst
  simp only [execOp, resolve, List.map_toArray, List.map_cons, List.map_nil, hx, hy, Sem.run_bind, Sem.run_pure, Result.andThen_ok, invoke, builtin, Builtin.copy_, List.getElem?_toArray, List.getElem?_cons_zero, List.getElem?_cons_succ,
    run_underlying hT.ul, Builtin.lenOf, hmin, hsz, hfc, hst, goInt]
end

/-! ### Structs compared -/
class EqL (P : Program) (t : Nat) {α : Type} [DecidableEq α] (enc : α → List Value) : Prop where
  guard : ∀ op X Y x y w, (eqGuard op t X Y (.agg (enc x).toArray) (.agg (enc y).toArray)).run P w = .ok () w
  eql : ∀ x y w, (binOp .eql t (.agg (enc x).toArray) (.agg (enc y).toArray)).run P w = .ok (.bool (decide (x = y))) w
  neq : ∀ x y w, (binOp .neq t (.agg (enc x).toArray) (.agg (enc y).toArray)).run P w = .ok (.bool (!decide (x = y))) w

section
variable {P : Program} {n : Nat} {W : World} {q : Md} {Q : Exit → St → List Ent → Prop} {σ : St} {L : List Ent} {ops : Array Oper} {rest : List Oper}
  {dst : Option Nat} {ty : TypeId} {pos : String} {aft : Array Edge} {gd : Option (Nat × Bool)} {α : Type} [DecidableEq α] {enc : α → List Value}

theorem SL_eqA {x y : Operand} {t t2 : Nat} [hE : EqL P t enc] (a b : α) (hx : ev σ x = .agg (enc a).toArray) (hy : ev σ y = .agg (enc b).toArray)
    (hg : wantedσ ops σ ⟨dst, .binOp .eql t x y t2, ty, pos, aft, gd⟩ = true) (hd : dstOk n dst = true)
    (h : SL P n W q ops Q rest (updO σ dst (.bool (decide (a = b)))) L) : SL P n W q ops Q (⟨dst, .binOp .eql t x y t2, ty, pos, aft, gd⟩ :: rest) σ L := by
  refine SL_valW _ (Nat.le_of_ble_eq_true rfl) hg hd (fun w => ?_) h
  simp only [execOp, hx, hy, Sem.run_bind, hE.guard, Result.andThen_ok, hE.eql, Sem.run_pure]

theorem SL_neqA {x y : Operand} {t t2 : Nat} [hE : EqL P t enc] (a b : α) (hx : ev σ x = .agg (enc a).toArray) (hy : ev σ y = .agg (enc b).toArray)
    (hg : wantedσ ops σ ⟨dst, .binOp .neq t x y t2, ty, pos, aft, gd⟩ = true) (hd : dstOk n dst = true)
    (h : SL P n W q ops Q rest (updO σ dst (.bool (!decide (a = b)))) L) : SL P n W q ops Q (⟨dst, .binOp .neq t x y t2, ty, pos, aft, gd⟩ :: rest) σ L := by
  refine SL_valW _ (Nat.le_of_ble_eq_true rfl) hg hd (fun w => ?_) h
  simp only [execOp, hx, hy, Sem.run_bind, hE.guard, Result.andThen_ok, hE.neq, Sem.run_pure]
end

/-! ### Results that lie in memory -/
section
variable {P : Program} {W : World} {σ : St} {L : List Ent}
theorem run_cell {n : Nat} {a : Act} {w : World} (ha : Rep n σ a) (hw : Mem W w L) {s : Nat} {g t' t k : Nat} {cs : List Value} [AggT P t k] (hs : σ s = .pointer (some ⟨g, 0, none⟩)) (hm : blk g t' cs ∈ L) (hk : cs.length = k) :
    a.tmps[s]?.getD undef = .pointer (some ⟨g, 0, none⟩) ∧ (loadVar t ⟨g, 0, none⟩).run P w = .ok (.agg cs.toArray) w := by
  have hh : w.heap[g]? = some (.cells cs.toArray t' (0, 0)) := (hw.ok _ hm).holds
  have h1 := run_loadVar_agg (P := P) (w := w) (t := t) (a := ⟨g, 0, none⟩) (cs := cs) hk (fun j v hj => by
    rw [Addr.add_lit, cell_of_row w g _ cs.toArray t' (0, 0) hh]; simpa using hj)
  have h2 := ha.get s
  simp only [Array.getD_eq_getD_getElem?] at h2
  exact ⟨h2.trans hs, h1⟩

theorem leaveC {fn : Func} {s t g t' k : Nat} {cs : List Value} {R : Value → List Ent → Prop} [AggT P t k] (hr : fn.results = #[.cell s t]) (hs : σ s = .pointer (some ⟨g, 0, none⟩)) (hm : blk g t' cs ∈ L) (hk : cs.length = k)
    (L' : List Ent) (hsub : L'.Sublist L) (h : R (.agg cs.toArray) L') : bodyQ P W fn R .ret σ L := by
  intro a w ha hw
  obtain ⟨h1, h2⟩ := run_cell (P := P) (t := t) ha hw hs hm hk
  refine ⟨.agg cs.toArray, ?_, L', hw.sublist hsub, h⟩
  simp [results, hr, h1, h2, asAddr]

theorem leaveC1 {fn : Func} {s t g t' k u : Nat} {cs : List Value} {R : Value → List Ent → Prop} [AggT P t k] (hr : fn.results = #[.cell s t, .tmp u]) (hs : σ s = .pointer (some ⟨g, 0, none⟩)) (hm : blk g t' cs ∈ L) (hk : cs.length = k)
    (L' : List Ent) (hsub : L'.Sublist L) (h : R (.tuple #[.agg cs.toArray, σ u]) L') : bodyQ P W fn R .ret σ L := by
  intro a w ha hw
  obtain ⟨h1, h2⟩ := run_cell (P := P) (t := t) ha hw hs hm hk
  refine ⟨.tuple #[.agg cs.toArray, σ u], ?_, L', hw.sublist hsub, h⟩
  have hg := ha.get u
  simp only [Array.getD_eq_getD_getElem?] at hg
  simp [results, hr, h1, h2, hg, asAddr]

theorem leaveC2 {fn : Func} {s t g t' k u u' : Nat} {cs : List Value} {R : Value → List Ent → Prop} [AggT P t k] (hr : fn.results = #[.cell s t, .tmp u, .tmp u']) (hs : σ s = .pointer (some ⟨g, 0, none⟩)) (hm : blk g t' cs ∈ L) (hk : cs.length = k)
    (L' : List Ent) (hsub : L'.Sublist L) (h : R (.tuple #[.agg cs.toArray, σ u, σ u']) L') : bodyQ P W fn R .ret σ L := by
  intro a w ha hw
  obtain ⟨h1, h2⟩ := run_cell (P := P) (t := t) ha hw hs hm hk
  refine ⟨.tuple #[.agg cs.toArray, σ u, σ u'], ?_, L', hw.sublist hsub, h⟩
  have hg := ha.get u
  have hg' := ha.get u'
  simp only [Array.getD_eq_getD_getElem?] at hg hg'
  simp [results, hr, h1, h2, hg, hg', asAddr]

theorem leave3 {fn : Func} {t u v : Nat} {R : Value → List Ent → Prop} (hr : fn.results = #[.tmp t, .tmp u, .tmp v]) (h : R (.tuple #[σ t, σ u, σ v]) L) : bodyQ P W fn R .ret σ L := by
  intro a w ha hw
  refine ⟨.tuple #[σ t, σ u, σ v], ?_, L, hw, h⟩
  have h1 := ha.get t
  have h2 := ha.get u
  have h3 := ha.get v
  simp only [Array.getD_eq_getD_getElem?] at h1 h2 h3
  simp [results, hr, h1, h2, h3]
end

/-! ### What stands next (for a tactic's choice) -/
section
variable {P : Program} {n : Nat} {W : World} {q : Md} {Q : Exit → St → List Ent → Prop} {σ : St} {L : List Ent} {ops : Array Oper} {rest : List Oper} {c : Code}
  {dst : Option Nat} {ty : TypeId} {pos : String} {aft : Array Edge} {gd : Option (Nat × Bool)} {t t2 : TypeId} {x y : Operand} {ol : List Oper}
theorem isSL (h : SL P n W q ops Q ol σ L) : SL P n W q ops Q ol σ L := h
theorem isSC (h : SC P n W c Q σ L) : SC P n W c Q σ L := h
theorem isBin {op : BinOp} (h : SL P n W q ops Q (⟨dst, .binOp op t x y t2, ty, pos, aft, gd⟩ :: rest) σ L) : SL P n W q ops Q (⟨dst, .binOp op t x y t2, ty, pos, aft, gd⟩ :: rest) σ L := h
theorem isLoad (h : SL P n W q ops Q (⟨dst, .load t x, ty, pos, aft, gd⟩ :: rest) σ L) : SL P n W q ops Q (⟨dst, .load t x, ty, pos, aft, gd⟩ :: rest) σ L := h
theorem isStore (h : SL P n W q ops Q (⟨dst, .store t x y, ty, pos, aft, gd⟩ :: rest) σ L) : SL P n W q ops Q (⟨dst, .store t x y, ty, pos, aft, gd⟩ :: rest) σ L := h
theorem isFA {f : Nat} (h : SL P n W q ops Q (⟨dst, .fieldAddr t x f, ty, pos, aft, gd⟩ :: rest) σ L) : SL P n W q ops Q (⟨dst, .fieldAddr t x f, ty, pos, aft, gd⟩ :: rest) σ L := h
theorem isLen (h : SL P n W q ops Q (⟨dst, .call { callee := .builtin .len, args := #[x], argTypes := #[t] }, ty, pos, aft, gd⟩ :: rest) σ L) :
    SL P n W q ops Q (⟨dst, .call { callee := .builtin .len, args := #[x], argTypes := #[t] }, ty, pos, aft, gd⟩ :: rest) σ L := h
theorem isBox (h : SL P n W q ops Q (⟨dst, .box t x, ty, pos, aft, gd⟩ :: rest) σ L) : SL P n W q ops Q (⟨dst, .box t x, ty, pos, aft, gd⟩ :: rest) σ L := h
theorem isAlloc (h : SL P n W q ops Q (⟨dst, .alloc t, ty, pos, aft, gd⟩ :: rest) σ L) : SL P n W q ops Q (⟨dst, .alloc t, ty, pos, aft, gd⟩ :: rest) σ L := h
end

theorem CallS.out {P : Program} {W : World} {f : FuncId} {args : Array Value} {L : List Ent} {R : Value → List Ent → Prop} (h : CallS P W f args L R) : ∀ w, Mem W w L → Calls P f args w (fun e w' => ∃ v L', e = .returned v ∧ Mem W w' L' ∧ R v L') := h
theorem CallS.of {P : Program} {W : World} {f : FuncId} {args : Array Value} {L : List Ent} {R : Value → List Ent → Prop} (h : ∀ w, Mem W w L → Calls P f args w (fun e w' => ∃ v L', e = .returned v ∧ Mem W w' L' ∧ R v L')) : CallS P W f args L R := h

attribute [irreducible] elt blk ro snap rowT SC SL CallS

/-! ### Slots known at a loop's head -/
def AllEq (σ : St) : List (Nat × Value) → Prop
  | [] => True
  | (d, v) :: r => σ d = v ∧ AllEq σ r
def upds (σ : St) : List (Nat × Value) → St
  | [] => σ
  | (d, v) :: r => upd (upds σ r) d v
theorem upds_of {σ : St} : ∀ {l : List (Nat × Value)}, AllEq σ l → σ = upds σ l
  | [], _ => rfl
  | (d, v) :: r, h => by
    have ih := upds_of h.2
    funext i
    simp only [upds, upd]
    cases hb : Nat.beq i d with
    | true => have : i = d := Nat.eq_of_beq_eq_true hb
              subst this; exact h.1
    | false => exact congrFun ih i
theorem AllEq.open {σ : St} {l : List (Nat × Value)} (h : AllEq σ l) : ∃ σ0, σ = upds σ0 l := ⟨σ, upds_of h⟩

theorem Knows.id {W : World} {L : List Ent} {p : World → Prop} (h : Knows W L p) : Knows W L p := h
/-! ### Short words -/
section
variable {α : Type} {a : α} {b0 b1 b2 b3 b4 b5 b6 b7 : α} {l : List α}
theorem m0 : a ∈ a :: l := List.mem_cons_self ..
theorem m1 (h : a ∈ l) : a ∈ b0 :: l := List.mem_cons_of_mem _ h
theorem m2 (h : a ∈ l) : a ∈ b0 :: b1 :: l := m1 (m1 h)
theorem m4 (h : a ∈ l) : a ∈ b0 :: b1 :: b2 :: b3 :: l := m2 (m2 h)
theorem m8 (h : a ∈ l) : a ∈ b0 :: b1 :: b2 :: b3 :: b4 :: b5 :: b6 :: b7 :: l := m4 (m4 h)
theorem s0 (l : List α) : [].Sublist l := List.nil_sublist l
theorem s1 (l : List α) : l.Sublist l := List.Sublist.refl l
theorem s2 {l' : List α} (a : α) (h : l.Sublist l') : (a :: l).Sublist (a :: l') := h.cons_cons a
theorem s3 {l' : List α} (a : α) (h : l.Sublist l') : l.Sublist (a :: l') := h.cons a
end
theorem p0 {e e' : Ent} {L : List Ent} : Put (e :: L) e e' (e' :: L) := Put.here
theorem p1 {x e e' : Ent} {L L' : List Ent} (h : Put L e e' L') : Put (x :: L) e e' (x :: L') := Put.there h
theorem n0 {a b : Nat} (h : Nat.ble a b = true) : a ≤ b := Nat.le_of_ble_eq_true h
end Go.Proofs.Ytfcljepagnipaaa
