/-
  Proved here: what a trace keeps where goroutines own blocks, read others that nobody writes, and share some by atomic steps alone: no race; how it grows by one goroutine's step, by a go statement, by operations that touch nothing.
  Conditions: none beyond each law's own.
-/
import Derived.Conc.CrowdCom2
import Derived.Test.YtnmhgfeglfcbgaaGun
namespace Go.Proofs.Ytnmhgfeglfcbgaa
open Go.Conc

/-- A cell of such a block. -/
def inB (S : Nat → Prop) (l : Loc) : Prop := ∃ a, l = .cell a ∧ S a.block

/-- A: who is at work · m: how many there are · size: how many blocks · Ow g: g's own · Rd: read by all, written by nobody · Sh: touched by atomic steps, or by goroutine 0's word. -/
structure TI (t : Trace) (A : Nat → Prop) (m size : Nat) (Ow : Nat → Nat → Prop) (Rd Sh : Nat → Prop) : Prop where
  nr : ∀ said, ¬ Race said t
  gs : ∀ (i : Nat) op, t[i]? = some op → op.g < m
  cell : ∀ i a, touchAt t i = some a → (∃ ad, a.loc = .cell ad ∧ ad.block < size) ∨ ((∀ ad, a.loc ≠ .cell ad) ∧ a.write = false)
  own : ∀ g, A g → ∀ l, inB (Ow g) l → Perm t g l
  rd : ∀ g, A g → ∀ l, inB Rd l → ConcN.PermW t g l
  sh : Quiet (inB Sh) t
  lv : ∀ (i : Nat) op a, t[i]? = some op → op.act.touch? = some a → ¬ A op.g → Go.Conc.Knows t 0 i ∨ (inB Sh a.loc ∧ a.kind = .atomic ∧ ¬ t.heard i)

structure Ap (A : Nat → Prop) (size : Nat) (Ow : Nat → Nat → Prop) (Rd Sh : Nat → Prop) : Prop where
  own : ∀ g g' b, A g → A g' → Ow g b → Ow g' b → g = g'
  lt : ∀ g b, A g → Ow g b → b < size
  ownRd : ∀ g b, A g → Ow g b → ¬ Rd b
  ownSh : ∀ g b, A g → Ow g b → ¬ Sh b
  rdSh : ∀ b, Rd b → ¬ Sh b
  rdLt : ∀ b, Rd b → b < size
  shLt : ∀ b, Sh b → b < size

/-- What g may do. -/
def OkG (g size size' : Nat) (Og Rd Sh : Nat → Prop) (op : MemOp) : Prop :=
  op.g = g ∧ ∀ x, op.act.touch? = some x → (inB Sh x.loc ∧ x.kind ≠ .plain ∧ (x.kind = .said → g = 0)) ∨ (∃ ad, x.loc = .cell ad ∧ ad.block < size' ∧ (Og ad.block ∨ size ≤ ad.block)) ∨ (inB Rd x.loc ∧ x.write = false) ∨ ((∀ ad, x.loc ≠ .cell ad) ∧ x.write = false)

section
variable {t u : Trace} {A : Nat → Prop} {m size size' : Nat} {Ow Ow' : Nat → Nat → Prop} {Rd Sh : Nat → Prop} {g : Nat}

theorem TI.app (ap : Ap A size Ow Rd Sh) (h : TI t A m size Ow Rd Sh) (hg : A g) (hm : g < m) (hs : size ≤ size') (hu : ∀ op ∈ u, OkG g size size' (Ow g) Rd Sh op)
    (ho : ∀ g', A g' → g' ≠ g → ∀ b, Ow' g' b → Ow g' b) (hog : ∀ b, Ow' g b → Ow g b ∨ size ≤ b) : TI (t ++ u) A m size' Ow' Rd Sh := by
  have hug : ∀ op ∈ u, op.g = g := fun op hop => (hu op hop).1
  refine ⟨fun said => ?_, fun i op hi => ?_, fun i a ha => ?_, fun g' hg' l hl => ?_, fun g' hg' l hl => ?_, h.sh.app fun op hop x hx hxs => ?_, fun i op a hi ha hna => ?_⟩
  · refine noRace_append (h.nr said) hug fun i a ha op hop b hb hc => ?_
    rcases (hu op hop).2 b hb with ⟨h1, h2, h3⟩ | ⟨ad, h1, _, h2⟩ | ⟨h1, h2⟩ | ⟨h1, h2⟩
    · exact h.sh.known h1 h2 h3 i a ha hc
    · rcases h2 with h2 | h2
      · exact h.own g hg b.loc ⟨ad, h1, h2⟩ i a ha hc.1
      · rcases h.cell i a ha with ⟨ad', e1, e2⟩ | ⟨e1, _⟩
        · have := hc.1; rw [e1, h1] at this; cases this; omega
        · exact absurd (hc.1.trans h1) (e1 ad)
    · exact h.rd g hg b.loc h1 i a ha hc.1 (hc.2.2.1.resolve_right (by simp [h2]))
    · rcases h.cell i a ha with ⟨ad', e1, e2⟩ | ⟨_, e2⟩
      · exact absurd (hc.1.symm.trans e1) (h1 ad')
      · rcases hc.2.2.1 with e | e
        · rw [e2] at e; cases e
        · rw [h2] at e; cases e
  · rcases getElem?_append_cases hi with ⟨_, hi'⟩ | ⟨_, hiu⟩
    · exact h.gs i op hi'
    · rw [hug op hiu]; exact hm
  · obtain ⟨x, hx, hxa⟩ := touch_of ha
    rcases getElem?_append_cases hx with ⟨_, hx'⟩ | ⟨_, hxu⟩
    · exact (h.cell i a (by rw [touchAt_of hx']; exact hxa)).imp (fun ⟨ad, e1, e2⟩ => ⟨ad, e1, Nat.lt_of_lt_of_le e2 hs⟩) id
    · rcases (hu x hxu).2 a hxa with ⟨⟨ad, h1, h1'⟩, h2, h3⟩ | ⟨ad, h1, h2, _⟩ | ⟨⟨ad, h1, h1'⟩, h2⟩ | h1
      · exact .inl ⟨ad, h1, Nat.lt_of_lt_of_le (ap.shLt _ h1') hs⟩
      · exact .inl ⟨ad, h1, h2⟩
      · exact .inl ⟨ad, h1, Nat.lt_of_lt_of_le (ap.rdLt _ h1') hs⟩
      · exact .inr h1
  · obtain ⟨ad, hla, hlb⟩ := hl
    by_cases e : g' = g
    · subst e
      rcases hog _ hlb with h1 | h1
      · exact (h.own g' hg' l ⟨ad, hla, h1⟩).app fun op hop _ _ _ => hug op hop
      · refine Perm.app (fun i a ha hal => ?_) fun op hop _ _ _ => hug op hop
        rcases h.cell i a ha with ⟨ad', e1, e2⟩ | ⟨e1, _⟩
        · rw [e1, hla] at hal; cases hal; omega
        · exact absurd (hal.trans hla) (e1 ad)
    · have hb := ho g' hg' e _ hlb
      refine (h.own g' hg' l ⟨ad, hla, hb⟩).app fun op hop b hb' hbl => ?_
      rcases (hu op hop).2 b hb' with ⟨⟨ad', h1, h1'⟩, _⟩ | ⟨ad', h1, _, h2⟩ | ⟨⟨ad', h1, h1'⟩, _⟩ | ⟨h1, _⟩
      · rw [hbl, hla] at h1; cases h1; exact absurd h1' (ap.ownSh g' _ hg' hb)
      · rw [hbl, hla] at h1; cases h1
        rcases h2 with h2 | h2
        · exact absurd (ap.own g' g _ hg' hg hb h2) e
        · have := ap.lt g' _ hg' hb; omega
      · rw [hbl, hla] at h1; cases h1; exact absurd h1' (ap.ownRd g' _ hg' hb)
      · exact absurd (hbl.trans hla) (h1 ad)
  · obtain ⟨ad, hla, hlb⟩ := hl
    refine (h.rd g' hg' l ⟨ad, hla, hlb⟩).app fun op hop b hb' hbl hw => ?_
    rcases (hu op hop).2 b hb' with ⟨⟨ad', h1, h1'⟩, _⟩ | ⟨ad', h1, _, h2⟩ | ⟨_, h2⟩ | ⟨h1, _⟩
    · rw [hbl, hla] at h1; cases h1; exact absurd h1' (ap.rdSh _ hlb)
    · rw [hbl, hla] at h1; cases h1
      rcases h2 with h2 | h2
      · exact absurd hlb (ap.ownRd g _ hg h2)
      · have := ap.rdLt _ hlb; omega
    · rw [h2] at hw; cases hw
    · exact absurd (hbl.trans hla) (h1 ad)
  · rcases (hu op hop).2 x hx with ⟨_, h2, h3⟩ | ⟨ad', h1, _, h2⟩ | ⟨⟨ad', h1, h1'⟩, _⟩ | ⟨h1, _⟩
    · exact ⟨h2, fun e => (hug op hop).trans (h3 e)⟩
    · obtain ⟨ad, e1, e2⟩ := hxs
      rw [h1] at e1; cases e1
      rcases h2 with h2 | h2
      · exact absurd e2 (ap.ownSh g _ hg h2)
      · have := ap.shLt _ e2; omega
    · obtain ⟨ad, e1, e2⟩ := hxs
      rw [h1] at e1; cases e1
      exact absurd e2 (ap.rdSh _ h1')
    · obtain ⟨ad, e1, _⟩ := hxs
      exact absurd e1 (h1 ad)
  · rcases getElem?_append_cases hi with ⟨hlt, hi'⟩ | ⟨_, hiu⟩
    · exact (h.lv i op a hi' ha hna).imp (fun k => k.app u) (fun ⟨e1, e2, e3⟩ => ⟨e1, e2, by rw [heard_old hlt]; exact e3⟩)
    · exact absurd (by rw [hug op hiu]; exact hg) hna

/-- Operations that touch nothing, whoever's. -/
theorem TI.idle (h : TI t A m size Ow Rd Sh) (hu : ∀ op ∈ u, op.g < m ∧ op.act.touch? = none) : TI (t ++ u) A m size Ow Rd Sh := by
  have key : ∀ (l : List MemOp) (t : Trace), TI t A m size Ow Rd Sh → (∀ op ∈ l, op.g < m ∧ op.act.touch? = none) → TI (t ++ l.toArray) A m size Ow Rd Sh := by
    intro l
    induction l with
    | nil => intro t h _; simpa using h
    | cons x l ih =>
      intro t h hl
      have e : t ++ (x :: l).toArray = (t ++ #[x]) ++ l.toArray := by simp
      rw [e]
      refine ih _ ?_ fun op hop => hl op (by simp [hop])
      have hx := hl x (by simp)
      have hn : ∀ op ∈ #[x], ∀ b, op.act.touch? = some b → False := by
        intro op hop b hb
        have : op = x := by simpa using hop
        subst this
        rw [hx.2] at hb; cases hb
      refine ⟨fun said => noRace_append (g := x.g) (h.nr said) (fun op hop => by have : op = x := by simpa using hop
                                                                                 rw [this]) fun i a _ op hop b hb _ => (hn op hop b hb).elim, fun i op hi => ?_, fun i a ha => ?_, fun g' hg' l hl => (h.own g' hg' l hl).app fun op hop b hb _ => (hn op hop b hb).elim,
        fun g' hg' l hl => (h.rd g' hg' l hl).app fun op hop b hb _ _ => (hn op hop b hb).elim, h.sh.app fun op hop b hb _ => (hn op hop b hb).elim, fun i op a hi ha hna => ?_⟩
      · rcases getElem?_append_cases hi with ⟨_, hi'⟩ | ⟨_, hiu⟩
        · exact h.gs i op hi'
        · have : op = x := by simpa using hiu
          rw [this]; exact hx.1
      · obtain ⟨y, hy, hya⟩ := touch_of ha
        rcases getElem?_append_cases hy with ⟨_, hy'⟩ | ⟨_, hyu⟩
        · exact h.cell i a (by rw [touchAt_of hy']; exact hya)
        · exact (hn y hyu a hya).elim
      · rcases getElem?_append_cases hi with ⟨hlt, hi'⟩ | ⟨_, hiu⟩
        · exact (h.lv i op a hi' ha hna).imp (fun k => k.app _) (fun ⟨e1, e2, e3⟩ => ⟨e1, e2, by rw [heard_old hlt]; exact e3⟩)
        · exact (hn op hiu a ha).elim
  have := key u.toList t h (fun op hop => hu op (by simpa using hop))
  simpa using this

/-- A go statement: the child m gets blocks of the starter's. -/
theorem TI.fork (h : TI t A m size Ow Rd Sh) (h0 : A 0) (hd0 : Deaf t 0 = 0) {x y : MemOp} (hx : x.g = 0 ∧ x.act = .go m) (hy : y.g = m ∧ y.act = .start) (hmA : ¬ A m) (hm0 : 0 < m)
    (hO : ∀ g, A g → ∀ b, Ow' g b → Ow g b) (hOm : ∀ b, Ow' m b → Ow 0 b) : TI (t ++ #[x, y]) (fun g => A g ∨ g = m) (m + 1) size Ow' Rd Sh := by
  have hk : Deaf t m = 0 := ConcN.Deaf_absent fun i op hi e => by have := h.gs i op hi; omega
  have h' : TI (t ++ #[x, y]) A (m + 1) size Ow Rd Sh := by
    have : TI t A (m + 1) size Ow Rd Sh := ⟨h.nr, fun i op hi => Nat.lt_succ_of_lt (h.gs i op hi), h.cell, h.own, h.rd, h.sh, h.lv⟩
    refine this.idle fun op hop => ?_
    simp only [List.mem_toArray, List.mem_cons, List.not_mem_nil, or_false] at hop
    rcases hop with rfl | rfl
    · rw [hx.1, hx.2]; exact ⟨by omega, rfl⟩
    · rw [hy.1, hy.2]; exact ⟨by omega, rfl⟩
  have old : ∀ {i : Nat} {a : Touch}, touchAt (t ++ #[x, y]) i = some a → touchAt t i = some a := by
    intro i a ha
    obtain ⟨z, hz, hza⟩ := touch_of ha
    rcases getElem?_append_cases hz with ⟨_, hz'⟩ | ⟨_, hzu⟩
    · rw [touchAt_of hz']; exact hza
    · simp only [List.mem_toArray, List.mem_cons, List.not_mem_nil, or_false] at hzu
      rcases hzu with rfl | rfl
      · rw [hx.2] at hza; cases hza
      · rw [hy.2] at hza; cases hza
  refine ⟨h'.nr, h'.gs, h'.cell, fun g hg l hl => ?_, fun g hg l hl => ?_, h'.sh, fun i op a hi ha hna => h'.lv i op a hi ha fun e => hna (.inl e)⟩
  · obtain ⟨ad, e1, e2⟩ := hl
    rcases hg with hg | rfl
    · exact h'.own g hg l ⟨ad, e1, hO g hg _ e2⟩
    · exact fun i a ha hal => ConcN.fork_knows hx hy hd0 hk (h.own 0 h0 l ⟨ad, e1, hOm _ e2⟩ i a (old ha) hal)
  · rcases hg with hg | rfl
    · exact h'.rd g hg l hl
    · exact fun i a ha hal hw => ConcN.fork_knows hx hy hd0 hk (h.rd 0 h0 l hl i a (old ha) hal hw)

theorem TI.mono {Ow' : Nat → Nat → Prop} (h : TI t A m size Ow Rd Sh) (ho : ∀ g, A g → ∀ b, Ow' g b → Ow g b) : TI t A m size Ow' Rd Sh :=
  ⟨h.nr, h.gs, h.cell, fun g hg l ⟨ad, e1, e2⟩ => h.own g hg l ⟨ad, e1, ho g hg _ e2⟩, h.rd, h.sh, h.lv⟩

/-- What a step lists, as operations. -/
theorem mem_ofEvents {g : Nat} {fn : FuncId} {pos : String} {es : Array Event} {op : MemOp} (h : op ∈ MemOp.ofEvents g fn pos es) : ∃ e ∈ es, op = { g, fn, pos, act := .ofEvent e } := by
  rw [ofEvents_eq] at h
  obtain ⟨e, he, rfl⟩ := Array.mem_map.1 h
  exact ⟨e, he, rfl⟩

theorem touch_cell {e : Event} {a : Addr} (h : e.loc = .cell a) {x : Touch} (hx : (MemAct.ofEvent e).touch? = some x) : x.loc = .cell a ∧ x.write = e.write ∧ (e.sync = true → x.kind = .atomic) := by
  obtain ⟨loc, wr, sy⟩ := e
  simp only at h
  subst h
  simp only [MemAct.ofEvent, MemAct.touch?, Option.some.injEq] at hx
  subst hx
  refine ⟨rfl, rfl, fun e => ?_⟩
  simp only at e
  simp [e]

theorem EvOk.ok {R O : Nat → Prop} {w w' : World} {e : Event} (h : EvOk R O w w' e) (g : Nat) (fn : FuncId) (pos : String) (Sh : Nat → Prop) : OkG g w.heap.size w'.heap.size O R Sh { g, fn, pos, act := .ofEvent e } := by
  refine ⟨rfl, fun x hx => ?_⟩
  rcases h with ⟨a, h1, h2, h3⟩ | ⟨m, rfl, h2⟩
  · obtain ⟨e1, e2, _⟩ := touch_cell h1 hx
    rcases h3 with h3 | h3 | ⟨h3, h4⟩
    · exact .inr (.inl ⟨a, e1, h2, .inl h3⟩)
    · exact .inr (.inl ⟨a, e1, h2, .inr h3⟩)
    · exact .inr (.inr (.inl ⟨⟨a, e1, h4⟩, by rw [e2]; exact h3⟩))
  · have := h2.touch
    rw [show MemAct.ofEvent ⟨.mark m, false, true⟩ = .mark m from rfl, this] at hx
    cases hx
end
end Go.Proofs.Ytnmhgfeglfcbgaa
