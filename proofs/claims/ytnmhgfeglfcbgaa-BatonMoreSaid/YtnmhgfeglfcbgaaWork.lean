/-
  Proved here: what a worker does that is given turns over one channel, answers over another, and joins a wait group at its end: a judgement closed under its own steps, with a rank that no world can raise.
  Conditions: none beyond each law's own.
-/
import Derived.Conc.CrowdComm
import Derived.Test.YtnmhgfeglfcbgaaTrac
namespace Go.Proofs.Ytnmhgfeglfcbgaa
open Go.Conc
open Go.ConcR (KK wgBlock WgAt stA smA rd wr mk Payload DC0)
open Go.ConcN (WgLive)

/-! ### Ranks -/
inductive Tr : Type 1 where
  | node (I : Type) (f : I → Tr) : Tr
inductive Tr.Lt : Tr → Tr → Prop
  | mk {I : Type} (f : I → Tr) (i : I) : Tr.Lt (f i) (.node I f)
theorem Tr.acc : ∀ τ : Tr, Acc Tr.Lt τ
  | .node _ f => ⟨_, fun y h => by cases h; exact Tr.acc _⟩

def Rk : Type 1 := Bool × Tr × Bool
inductive Rk.Lt : Rk → Rk → Prop
  | act {x y : Tr × Bool} : Rk.Lt (false, x) (true, y)
  | tr {a : Bool} {τ' τ : Tr} {b' b : Bool} (h : Tr.Lt τ' τ) : Rk.Lt (a, τ', b') (a, τ, b)
  | fl {a : Bool} {τ : Tr} : Rk.Lt (a, τ, false) (a, τ, true)
theorem Rk.acc : ∀ ρ : Rk, Acc Rk.Lt ρ := by
  have key : ∀ a : Bool, (a = true → ∀ x : Tr × Bool, Acc Rk.Lt (false, x)) → ∀ τ : Tr, ∀ b, Acc Rk.Lt (a, τ, b) := by
    intro a ha τ
    induction Tr.acc τ with
    | intro τ _ ih =>
      have h0 : Acc Rk.Lt (a, τ, false) := ⟨_, fun y h => by
        cases h with
        | act => exact ha rfl _
        | tr h => exact ih _ h _⟩
      intro b
      cases b with
      | false => exact h0
      | true => exact ⟨_, fun y h => by
          cases h with
          | act => exact ha rfl _
          | tr h => exact ih _ h _
          | fl => exact h0⟩
  have k0 : ∀ x : Tr × Bool, Acc Rk.Lt (false, x) := fun x => key false (by simp) x.1 x.2
  intro ρ
  obtain ⟨a, τ, b⟩ := ρ
  cases a with
  | false => exact k0 (τ, b)
  | true => exact key true (fun _ => k0) τ b

/-- One of the first j is lowered. -/
def RL (j : Nat) (T' T : Nat → Rk) : Prop := ∃ i, i < j ∧ Rk.Lt (T' i) (T i) ∧ ∀ k, k ≠ i → T' k = T k
theorem RL.acc : ∀ (j : Nat) (T : Nat → Rk), Acc (RL j) T
  | 0, T => ⟨_, fun _ ⟨i, hi, _⟩ => by omega⟩
  | j + 1, T => by
    have key : ∀ x : Rk, ∀ T : Nat → Rk, T j = x → Acc (RL (j + 1)) T := by
      intro x
      induction Rk.acc x with
      | intro x _ ihx =>
        intro T hT
        have inner : ∀ T, Acc (RL j) T → T j = x → Acc (RL (j + 1)) T := by
          intro T h
          induction h with
          | intro T _ ih =>
            intro hx
            refine ⟨_, fun T' ⟨i, hi, hlt, hs⟩ => ?_⟩
            by_cases e : i = j
            · subst e
              exact ihx (T' i) (by rw [← hx]; exact hlt) T' rfl
            · exact ih T' ⟨i, by omega, hlt, hs⟩ (by rw [hs j (fun h => e h.symm)]; exact hx)
        exact inner T (RL.acc j T) hT
    exact key _ T rfl

/-! ### A worker -/
structure WK where
  b : Nat
  c : Nat
  note : Nat → Value
  rest : Nat → Value
  lim : Nat

/-- R j: it comes to take its turn number j · S j: it has it, and comes to answer · F j: no turn is left; it comes to tell · C: it comes to close · D0 ..: it joins. -/
inductive Ph where
  | R (j : Nat)
  | S (j : Nat)
  | F (j : Nat)
  | C | D0 | D1 | D2 | D3 | D4 | D5
/-- Behind its release. -/
def Ph.rel : Ph → Bool
  | .D1 | .D2 | .D3 | .D4 | .D5 => true
  | _ => false
def Ph.sends (K : WK) : Ph → Option (Value × Ph)
  | .S j => some (K.note j, .R (j + 1))
  | .F j => some (K.rest j, .C)
  | _ => none

/-- What a worker suffers. -/
structure IW (N : Nat) (O : Nat → Prop) (ty : TypeId) (wg : Nat) (w w₁ : World) : Prop where
  rl : Rl N O w w₁
  sz : N ≤ w₁.heap.size
  live : WgLive ty wg w₁
theorem IW.trans {N : Nat} {O : Nat → Prop} {ty : TypeId} {wg : Nat} {w w₁ w₂ : World} (h : IW N O ty wg w w₁) (h' : IW N O ty wg w₁ w₂) : IW N O ty wg w w₂ := ⟨h.rl.trans h'.rl, h'.sz, h'.live⟩

/-- What a step lists: what its doer may, or an atomic step on the group. -/
def EvX (R O : Nat → Prop) (wg : Nat) (w w' : World) (e : Event) : Prop :=
  EvOk R O w w' e ∨ ((∀ x, (MemAct.ofEvent e).touch? = some x → inB (· = wg) x.loc ∧ x.kind ≠ .plain ∧ x.kind ≠ .said) ∧ e.loc ≠ .mark .disable ∧ e.loc ≠ .mark .enable ∧ e.loc ≠ .mark (.release (stA wg)))

structure KeptX (R O : Nat → Prop) (wg : Nat) (w w' : World) (es : Array Event) : Prop where
  os : w'.os = w.os
  tape : w'.tape = w.tape
  output : w'.output = w.output
  size : w.heap.size ≤ w'.heap.size
  block : ∀ k, k < w.heap.size → ¬ O k → w'.heap[k]? = w.heap[k]?
  evs : ∀ e ∈ es, EvX R O wg w w' e
theorem Kept.x {R O : Nat → Prop} {wg : Nat} {w w' : World} {es : Array Event} (h : Kept R O w w' es) : KeptX R O wg w w' es := ⟨h.os, h.tape, h.output, h.size, h.block, fun e he => .inl (h.evs e he)⟩

def growO (O : Nat → Prop) (w w' : World) : Nat → Prop := fun k => O k ∨ (w.heap.size ≤ k ∧ k < w'.heap.size)

section
variable (P : Program) (R : Nat → Prop) (N : Nat) (ty : TypeId) (wg : Nat) (K : WK)
def WGo : Tr → Ph → (Nat → Prop) → Goroutine → World → Prop
  | .node I f, ph, O, g, w => g.status = .running ∧ (
    (∀ w₁, IW N O ty wg w w₁ → ∃ (i : I) (g' : Goroutine) (w' : World) (es : Array Event), stepG P false g w₁ = .go g' w' es ∧ KeptX R O wg w₁ w' es ∧ (ph.rel = true → es = #[]) ∧ WGo (f i) ph (growO O w₁ w') g' w') ∨
    (∃ (j : Nat) (g₂ : Goroutine) (z : Value), ph = .R j ∧ (∀ w₁ cs sh, stepG P false { parked g₂ cs sh with status := .running } w₁ = stepG P false g w₁) ∧
      (∀ w₁, IW N O ty wg w w₁ → stepG P false g w₁ = .comm g₂ #[rcase K.b z] true (.recv true) w₁ #[]) ∧
      (∀ w₁ v, j < K.lim → IW N O ty wg w w₁ → ∃ i, WGo (f i) (.S j) O (Conc.served g₂ (recvd true v true)) w₁) ∧
      (∀ w₁, IW N O ty wg w w₁ → ∃ i, WGo (f i) (.F j) O (Conc.served g₂ (recvd true z false)) w₁)) ∨
    (∃ (v : Value) (p' : Ph) (g₂ : Goroutine) (z : Value), ph.sends K = some (v, p') ∧ (∀ w₁, IW N O ty wg w w₁ → stepG P false g w₁ = .comm g₂ #[scase K.c v z] true .send w₁ #[]) ∧
      (∀ w₁, IW N O ty wg w w₁ → ∃ i, WGo (f i) p' O (Conc.served g₂ undef) w₁)) ∨
    (ph = .C ∧ ∀ w₁ (s r : Nat), ¬ O K.c ∧ N ≤ K.c ∧ K.c ≠ wg → IW N O ty wg w w₁ → w₁.heap[K.c]? = some (.chan 0 #[] false s r false) → ∃ i g' es, stepG P false g w₁ = .go g' (w₁.setChan K.c 0 #[] true s r false) es ∧
        (∀ e ∈ es, e = ⟨.obj K.c, false, true⟩ ∨ e = ⟨.obj K.c, true, true⟩) ∧ WGo (f i) .D0 O g' (w₁.setChan K.c 0 #[] true s r false)) ∨
    (ph = .D0 ∧ ∀ w₁, IW N O ty wg w w₁ → ∃ i g', stepG P false g w₁ = .go g' w₁ #[mk (.releaseMerge (stA wg))] ∧ WGo (f i) .D1 O g' w₁) ∨
    (ph = .D1 ∧ ∀ w₁, IW N O ty wg w w₁ → ∃ i g', stepG P false g w₁ = .go g' w₁ #[mk .disable] ∧ WGo (f i) .D2 O g' w₁) ∨
    (ph = .D2 ∧ ∀ w₁ (v wt : Nat), IW N O ty wg w w₁ → wt ≤ 1 → v < 2147483647 → WgAt ty wg w₁ ((v + 1) * KK + wt) 0 → ∃ g', stepG P false g w₁ = .go g' (w₁.setCell (stA wg) (.int .u64 (v * KK + wt))) #[rd (stA wg), wr (stA wg)] ∧
        ((v = 0 ∧ wt = 1) → ∃ i, WGo (f i) .D3 O g' (w₁.setCell (stA wg) (.int .u64 (v * KK + wt)))) ∧ (¬ (v = 0 ∧ wt = 1) → ∃ q, QuitsD P q 1 g')) ∨
    (ph = .D3 ∧ ∀ w₁, IW N O ty wg w w₁ → WgAt ty wg w₁ 1 0 → ∃ i g', stepG P false g w₁ = .go g' w₁ #[rd (stA wg)] ∧ WGo (f i) .D4 O g' w₁) ∨
    (ph = .D4 ∧ ∀ w₁, IW N O ty wg w w₁ → WgAt ty wg w₁ 1 0 → ∃ i g', stepG P false g w₁ = .go g' (w₁.setCell (stA wg) (.int .u64 0)) #[wr (stA wg)] ∧ WGo (f i) .D5 O g' (w₁.setCell (stA wg) (.int .u64 0))) ∨
    (ph = .D5 ∧ mayWake P g = true ∧ ∀ w₁, IW N O ty wg w w₁ → WgAt ty wg w₁ 0 0 → ∃ g', stepG P false g w₁ = .go g' (w₁.setCell (smA wg) (.int .u32 1)) (semEvents (smA wg)) ∧ ∃ q, QuitsD P q 1 g'))
end

section
variable {P : Program} {R : Nat → Prop} {N : Nat} {ty : TypeId} {wg : Nat} {K : WK} {τ : Tr} {ph : Ph} {O : Nat → Prop} {g : Goroutine} {w w' : World}

theorem WGo.running (h : WGo P R N ty wg K τ ph O g w) : g.status = .running := by
  cases τ
  exact h.1

theorem WGo.rely (h : WGo P R N ty wg K τ ph O g w) (hr : IW N O ty wg w w') : WGo P R N ty wg K τ ph O g w' := by
  cases τ with
  | node I f =>
    obtain ⟨hs, h⟩ := h
    refine ⟨hs, ?_⟩
    rcases h with h | ⟨j, g₂, z, e, same, hc, h1, h0⟩ | ⟨v, p', g₂, z, e, hc, h⟩ | ⟨e, h⟩ | ⟨e, h⟩ | ⟨e, h⟩ | ⟨e, h⟩ | ⟨e, h⟩ | ⟨e, h⟩ | ⟨e, hm, h⟩
    · exact .inl fun w₁ h₁ => h w₁ (hr.trans h₁)
    · exact .inr (.inl ⟨j, g₂, z, e, same, fun w₁ h₁ => hc w₁ (hr.trans h₁), fun w₁ v hl h₁ => h1 w₁ v hl (hr.trans h₁), fun w₁ h₁ => h0 w₁ (hr.trans h₁)⟩)
    · exact .inr (.inr (.inl ⟨v, p', g₂, z, e, fun w₁ h₁ => hc w₁ (hr.trans h₁), fun w₁ h₁ => h w₁ (hr.trans h₁)⟩))
    · exact .inr (.inr (.inr (.inl ⟨e, fun w₁ s r hh h₁ => h w₁ s r hh (hr.trans h₁)⟩)))
    · exact .inr (.inr (.inr (.inr (.inl ⟨e, fun w₁ h₁ => h w₁ (hr.trans h₁)⟩))))
    · exact .inr (.inr (.inr (.inr (.inr (.inl ⟨e, fun w₁ h₁ => h w₁ (hr.trans h₁)⟩)))))
    · exact .inr (.inr (.inr (.inr (.inr (.inr (.inl ⟨e, fun w₁ v wt h₁ => h w₁ v wt (hr.trans h₁)⟩))))))
    · exact .inr (.inr (.inr (.inr (.inr (.inr (.inr (.inl ⟨e, fun w₁ h₁ => h w₁ (hr.trans h₁)⟩)))))))
    · exact .inr (.inr (.inr (.inr (.inr (.inr (.inr (.inr (.inl ⟨e, fun w₁ h₁ => h w₁ (hr.trans h₁)⟩))))))))
    · exact .inr (.inr (.inr (.inr (.inr (.inr (.inr (.inr (.inr ⟨e, hm, fun w₁ h₁ => h w₁ (hr.trans h₁)⟩))))))))

/-- It is parked at its receive. -/
structure AtR (P : Program) (R : Nat → Prop) (N : Nat) (ty : TypeId) (wg : Nat) (K : WK) (τ : Tr) (j : Nat) (O : Nat → Prop) (g₂ : Goroutine) (z : Value) (w : World) : Prop where
  go : ∃ τ', WGo P R N ty wg K τ' (.R j) O { parked g₂ #[rcase K.b z] (.recv true) with status := .running } w
  h1 : ∀ w₁ v, j < K.lim → IW N O ty wg w w₁ → ∃ τ', Tr.Lt τ' τ ∧ WGo P R N ty wg K τ' (.S j) O (Conc.served g₂ (recvd true v true)) w₁
  h0 : ∀ w₁, IW N O ty wg w w₁ → ∃ τ', Tr.Lt τ' τ ∧ WGo P R N ty wg K τ' (.F j) O (Conc.served g₂ (recvd true z false)) w₁
theorem AtR.rely {j : Nat} {g₂ : Goroutine} {z : Value} (h : AtR P R N ty wg K τ j O g₂ z w) (hr : IW N O ty wg w w') : AtR P R N ty wg K τ j O g₂ z w' :=
  ⟨h.go.imp fun _ x => x.rely hr, fun w₁ v hl h₁ => h.h1 w₁ v hl (hr.trans h₁), fun w₁ h₁ => h.h0 w₁ (hr.trans h₁)⟩

/-- It is parked at its send. -/
structure AtS (P : Program) (R : Nat → Prop) (N : Nat) (ty : TypeId) (wg : Nat) (K : WK) (τ : Tr) (p p' : Ph) (v : Value) (O : Nat → Prop) (g₂ : Goroutine) (z : Value) (w : World) : Prop where
  hp : p.sends K = some (v, p')
  h : ∀ w₁, IW N O ty wg w w₁ → ∃ τ', Tr.Lt τ' τ ∧ WGo P R N ty wg K τ' p' O (Conc.served g₂ undef) w₁
theorem AtS.rely {p p' : Ph} {v : Value} {g₂ : Goroutine} {z : Value} (h : AtS P R N ty wg K τ p p' v O g₂ z w) (hr : IW N O ty wg w w') : AtS P R N ty wg K τ p p' v O g₂ z w' :=
  ⟨h.hp, fun w₁ h₁ => h.h w₁ (hr.trans h₁)⟩
end

/-! ### The kit's way through Done -/
section
variable [Payload] {P : Program} {R : Nat → Prop} {N : Nat} {ty : TypeId} {wg : Nat} {K : WK}
open Go.ConcN (RW DWs AtR0 AtK1 AtD1 AtD2 AtD3 AtD4 Has PayAt)

theorem IW.rw {O : Nat → Prop} {C n i : Nat} {w w₁ : World} (h : IW N O ty wg w w₁) (hC : O C) (hlt : C < w.heap.size) : RW ty wg C n 0 i w w₁ := by
  have e := h.rl.block C hlt (.inr hC)
  refine ⟨fun b hb => by omega, fun _ => h.live, fun ⟨cs, h1, h2⟩ => ⟨cs, e.trans h1, h2⟩, ?_⟩
  simp only [World.cell?, e]


omit [Payload] in
theorem IW.at (N : Nat) (O : Nat → Prop) (ty : TypeId) (wg : Nat) {w : World} (hz : N ≤ w.heap.size) (hl : WgLive ty wg w) : IW N O ty wg w w := ⟨Rl.refl _ _ _, hz, hl⟩

/-- The kit's walk up to a stop, as ours. -/
theorem conv {C n : Nat} {p : Ph} {D : World → World → Array Event → Prop} {Stop : Goroutine → World → Prop} {O : Nat → Prop} (hC : O C) (hwg : ¬ O wg)
    (hD : ∀ w w' es, D w w' es → KeptX R O wg w w' es ∧ w'.heap.size = w.heap.size ∧ (p.rel = true → es = #[]))
    (_hst : ∀ g w, Stop g w → g.status = .running)
    (hstop : ∀ g w, C < w.heap.size → N ≤ w.heap.size → WgLive ty wg w → (∀ w₁, IW N O ty wg w w₁ → Stop g w₁) → ∃ τ, WGo P R N ty wg K τ p O g w) :
    ∀ (m : Nat) (g : Goroutine) (w : World), C < w.heap.size → N ≤ w.heap.size → WgLive ty wg w → Goes P false (RW ty wg C n 0 (1 - 1)) D Stop m g w → ∃ τ, WGo P R N ty wg K τ p O g w := by
  intro m
  induction m with
  | zero => exact fun g w hlt hz hl h => hstop g w hlt hz hl fun w₁ h₁ => h w₁ (h₁.rw hC hlt)
  | succ m ih =>
    intro g w hlt hz hl h
    rcases h with h | ⟨hs, h⟩
    · exact hstop g w hlt hz hl fun w₁ h₁ => h w₁ (h₁.rw hC hlt)
    · have key : ∀ x : { w₁ : World // IW N O ty wg w w₁ }, ∃ (τ : Tr) (g' : Goroutine) (w' : World) (es : Array Event), stepG P false g x.1 = .go g' w' es ∧ KeptX R O wg x.1 w' es ∧ (p.rel = true → es = #[]) ∧ WGo P R N ty wg K τ p (growO O x.1 w') g' w' := by
        rintro ⟨w₁, h₁⟩
        obtain ⟨g', w', es, hgo, hd, hg⟩ := goes_elim (h w₁ (h₁.rw hC hlt))
        obtain ⟨hk, hsz, hes⟩ := hD _ _ _ hd
        have hO : growO O w₁ w' = O := by
          funext k
          exact propext ⟨fun h => h.elim id fun h => by omega, .inl⟩
        have hlive : WgLive ty wg w' := by
          obtain ⟨st, sm, hl⟩ := h₁.live
          exact ⟨st, sm, hl.of_block (hk.block wg (Array.getElem?_eq_some_iff.1 hl).1 hwg)⟩
        obtain ⟨τ, hτ⟩ := ih g' w' (by rw [hsz]; exact Nat.lt_of_lt_of_le hlt h₁.rl.size) (by rw [hsz]; exact h₁.sz) hlive hg
        exact ⟨τ, g', w', es, hgo, hk, hes, by rw [hO]; exact hτ⟩
      refine ⟨.node { w₁ : World // IW N O ty wg w w₁ } fun x => Classical.choose (key x), hs, .inl fun w₁ h₁ => ⟨⟨w₁, h₁⟩, ?_⟩⟩
      exact Classical.choose_spec (key ⟨w₁, h₁⟩)

omit [Payload] in
theorem mkNode {X : Type} {A : X → Prop} {Q : X → Tr → Prop} (h : ∀ x, A x → ∃ τ, Q x τ) : ∃ f : X → Tr, ∀ x, A x → Q x (f x) :=
  ⟨fun x => open Classical in if hx : A x then Classical.choose (h x hx) else .node Empty Empty.elim, fun x hx => by
    simp only [hx, dite_true]
    exact Classical.choose_spec (h x hx)⟩

omit [Payload] in
theorem dc0X {O : Nat → Prop} {p : Ph} : ∀ w w' es, DC0 w w' es → KeptX R O wg w w' es ∧ w'.heap.size = w.heap.size ∧ (p.rel = true → es = #[]) := by
  rintro w w' es ⟨rfl, rfl⟩
  exact ⟨(Kept.idle _ _ _).x, rfl, fun _ => rfl⟩

section
variable {C n : Nat} {O : Nat → Prop} (hC : O C) (hwg : ¬ O wg) {g : Goroutine} {w : World}
include hC hwg

theorem of_D4 (m : Nat) (hlt : C < w.heap.size) (hz : N ≤ w.heap.size) (hl : WgLive ty wg w) (h : Goes P false (RW ty wg C n 0 (1 - 1)) DC0 (AtD4 P ty wg) m g w) : ∃ τ, WGo P R N ty wg K τ .D5 O g w := by
  refine conv hC hwg dc0X (fun g w h => h.1) (fun g w hlt hz hl h => ?_) m g w hlt hz hl h
  have h0 := h w (.at N O ty wg hz hl)
  exact ⟨.node Empty Empty.elim, h0.1, .inr (.inr (.inr (.inr (.inr (.inr (.inr (.inr (.inr ⟨rfl, h0.2.1, fun w₁ h₁ hw => (h w₁ h₁).2.2 hw⟩))))))))⟩

theorem of_D3 (m : Nat) (hlt : C < w.heap.size) (hz : N ≤ w.heap.size) (hl : WgLive ty wg w) (h : Goes P false (RW ty wg C n 0 (1 - 1)) DC0 (AtD3 P ty wg C n 0 1) m g w) : ∃ τ, WGo P R N ty wg K τ .D4 O g w := by
  refine conv hC hwg dc0X (fun g w h => h.1) (fun g w hlt hz hl h => ?_) m g w hlt hz hl h
  have h0 := h w (.at N O ty wg hz hl)
  obtain ⟨f, hf⟩ := mkNode (X := World) (A := fun w₁ => IW N O ty wg w w₁ ∧ WgAt ty wg w₁ 1 0) (Q := fun w₁ τ => ∃ g', stepG P false g w₁ = .go g' (w₁.setCell (stA wg) (.int .u64 0)) #[wr (stA wg)] ∧ WGo P R N ty wg K τ .D5 O g' (w₁.setCell (stA wg) (.int .u64 0)))
    (fun w₁ ⟨h₁, hw⟩ => by
      obtain ⟨g', e, m', hg⟩ := (h w₁ h₁).2 hw
      obtain ⟨τ, hτ⟩ := of_D4 hC hwg (R := R) (N := N) (K := K) m' (by simpa [World.setCell] using Nat.lt_of_lt_of_le hlt h₁.rl.size) (by simpa [World.setCell] using h₁.sz) ⟨_, _, hw.setSt 0⟩ hg
      exact ⟨τ, g', e, hτ⟩)
  exact ⟨.node World f, h0.1, .inr (.inr (.inr (.inr (.inr (.inr (.inr (.inr (.inl ⟨rfl, fun w₁ h₁ hw => ⟨w₁, hf w₁ ⟨h₁, hw⟩⟩⟩))))))))⟩

theorem of_D2 (m : Nat) (hlt : C < w.heap.size) (hz : N ≤ w.heap.size) (hl : WgLive ty wg w) (h : Goes P false (RW ty wg C n 0 (1 - 1)) DC0 (AtD2 P ty wg C n 0 1) m g w) : ∃ τ, WGo P R N ty wg K τ .D3 O g w := by
  refine conv hC hwg dc0X (fun g w h => h.1) (fun g w hlt hz hl h => ?_) m g w hlt hz hl h
  have h0 := h w (.at N O ty wg hz hl)
  obtain ⟨f, hf⟩ := mkNode (X := World) (A := fun w₁ => IW N O ty wg w w₁ ∧ WgAt ty wg w₁ 1 0) (Q := fun w₁ τ => ∃ g', stepG P false g w₁ = .go g' w₁ #[rd (stA wg)] ∧ WGo P R N ty wg K τ .D4 O g' w₁)
    (fun w₁ ⟨h₁, hw⟩ => by
      obtain ⟨g', e, m', hg⟩ := (h w₁ h₁).2 hw
      obtain ⟨τ, hτ⟩ := of_D3 hC hwg (R := R) (N := N) (K := K) m' (Nat.lt_of_lt_of_le hlt h₁.rl.size) h₁.sz h₁.live hg
      exact ⟨τ, g', e, hτ⟩)
  exact ⟨.node World f, h0.1, .inr (.inr (.inr (.inr (.inr (.inr (.inr (.inl ⟨rfl, fun w₁ h₁ hw => ⟨w₁, hf w₁ ⟨h₁, hw⟩⟩⟩)))))))⟩

theorem of_D1 (m : Nat) (hlt : C < w.heap.size) (hz : N ≤ w.heap.size) (hl : WgLive ty wg w) (h : Goes P false (RW ty wg C n 0 (1 - 1)) DC0 (AtD1 P ty wg C n 0 1) m g w) : ∃ τ, WGo P R N ty wg K τ .D2 O g w := by
  refine conv hC hwg dc0X (fun g w h => h.1) (fun g w hlt hz hl h => ?_) m g w hlt hz hl h
  have h0 := h w (.at N O ty wg hz hl)
  obtain ⟨f, hf⟩ := mkNode (X := World × Nat × Nat) (A := fun x => IW N O ty wg w x.1 ∧ x.2.2 ≤ 1 ∧ x.2.1 < 2147483647 ∧ WgAt ty wg x.1 ((x.2.1 + 1) * KK + x.2.2) 0)
    (Q := fun x τ => ∃ g', stepG P false g x.1 = .go g' (x.1.setCell (stA wg) (.int .u64 (x.2.1 * KK + x.2.2))) #[rd (stA wg), wr (stA wg)] ∧
        ((x.2.1 = 0 ∧ x.2.2 = 1) → WGo P R N ty wg K τ .D3 O g' (x.1.setCell (stA wg) (.int .u64 (x.2.1 * KK + x.2.2)))) ∧ (¬ (x.2.1 = 0 ∧ x.2.2 = 1) → ∃ q, QuitsD P q 1 g'))
    (fun ⟨w₁, v, wt⟩ ⟨h₁, h2, h3, hw⟩ => by
      obtain ⟨g', e, h4, h5⟩ := (h w₁ h₁).2 v wt h2 h3 hw
      by_cases hc : v = 0 ∧ wt = 1
      · obtain ⟨m', hg⟩ := h4 hc
        obtain ⟨τ, hτ⟩ := of_D2 hC hwg (R := R) (N := N) (K := K) m' (by simpa [World.setCell] using Nat.lt_of_lt_of_le hlt h₁.rl.size) (by simpa [World.setCell] using h₁.sz) ⟨_, _, hw.setSt _⟩ hg
        exact ⟨τ, g', e, fun _ => hτ, fun hn => absurd hc hn⟩
      · exact ⟨.node Empty Empty.elim, g', e, fun h => absurd h hc, h5⟩)
  refine ⟨.node (World × Nat × Nat) f, h0.1, .inr (.inr (.inr (.inr (.inr (.inr (.inl ⟨rfl, fun w₁ v wt h₁ h2 h3 hw => ?_⟩))))))⟩
  obtain ⟨g', e, h4, h5⟩ := hf (w₁, v, wt) ⟨h₁, h2, h3, hw⟩
  exact ⟨g', e, fun hc => ⟨(w₁, v, wt), h4 hc⟩, h5⟩

theorem of_K1 (m : Nat) (hlt : C < w.heap.size) (hz : N ≤ w.heap.size) (hl : WgLive ty wg w) (h : Goes P false (RW ty wg C n 0 (1 - 1)) DC0 (AtK1 P ty wg C n 0 1) m g w) : ∃ τ, WGo P R N ty wg K τ .D1 O g w := by
  refine conv hC hwg dc0X (fun g w h => h.1) (fun g w hlt hz hl h => ?_) m g w hlt hz hl h
  have h0 := h w (.at N O ty wg hz hl)
  obtain ⟨f, hf⟩ := mkNode (X := World) (A := fun w₁ => IW N O ty wg w w₁) (Q := fun w₁ τ => ∃ g', stepG P false g w₁ = .go g' w₁ #[mk .disable] ∧ WGo P R N ty wg K τ .D2 O g' w₁)
    (fun w₁ h₁ => by
      obtain ⟨g', e, m', hg⟩ := (h w₁ h₁).2
      obtain ⟨τ, hτ⟩ := of_D1 hC hwg (R := R) (N := N) (K := K) m' (Nat.lt_of_lt_of_le hlt h₁.rl.size) h₁.sz h₁.live hg
      exact ⟨τ, g', e, hτ⟩)
  exact ⟨.node World f, h0.1, .inr (.inr (.inr (.inr (.inr (.inl ⟨rfl, fun w₁ h₁ => ⟨w₁, hf w₁ h₁⟩⟩)))))⟩

/-- The whole of Done, from the kit. -/
theorem of_R0 {v : Value} (m : Nat) (hlt : C < w.heap.size) (hz : N ≤ w.heap.size) (hl : WgLive ty wg w)
    (h : Goes P false (RW ty wg C n 0 (1 - 1)) (DWs wg (fun _ _ => False) (fun _ _ => False) C n 1) (AtR0 P ty wg C n 0 1 v) m g w) : ∃ τ, WGo P R N ty wg K τ .D0 O g w := by
  refine conv hC hwg (p := .D0) (fun w w' es hd => ?_) (fun g w h => h.1) (fun g w hlt hz hl h => ?_) m g w hlt hz hl h
  · obtain ⟨ha, he⟩ := hd
    refine ⟨⟨ha.os, ha.tape, ha.output, Nat.le_of_eq ha.size.symm, fun k _ hk => ha.block k fun e => hk (e ▸ hC), fun e hes => .inr ?_⟩, ha.size, fun h => by cases h⟩
    obtain ⟨h1, h2, h3, h4⟩ := he e hes
    refine ⟨fun x hx => ?_, h2, h3, h4⟩
    rcases (h1 0 "").2 x hx with ⟨⟨a, e1, e2⟩, e3, e4⟩ | e1 | ⟨e1, _⟩
    · exact ⟨⟨a, e1, e2⟩, e3, e4⟩
    · exact e1.elim
    · exact e1.elim
  · have h0 := h w (.at N O ty wg hz hl)
    obtain ⟨f, hf⟩ := mkNode (X := World) (A := fun w₁ => IW N O ty wg w w₁) (Q := fun w₁ τ => ∃ g', stepG P false g w₁ = .go g' w₁ #[mk (.releaseMerge (stA wg))] ∧ WGo P R N ty wg K τ .D1 O g' w₁)
      (fun w₁ h₁ => by
        obtain ⟨g', e, m', hg⟩ := (h w₁ h₁).2.2
        obtain ⟨τ, hτ⟩ := of_K1 hC hwg (R := R) (N := N) (K := K) m' (Nat.lt_of_lt_of_le hlt h₁.rl.size) h₁.sz h₁.live hg
        exact ⟨τ, g', e, hτ⟩)
    exact ⟨.node World f, h0.1, .inr (.inr (.inr (.inr (.inl ⟨rfl, fun w₁ h₁ => ⟨w₁, hf w₁ h₁⟩⟩))))⟩
end
end

/-! ### A worker's walk -/
section
variable {P : Program}
/-- All is well with a worker from here on. -/
theorem bwStep {P : Program} {w0 : WR} {ty : TypeId} {wg : Nat} {K : WK} {O : Nat → Prop} {ph : Ph} {g : Goroutine} {w : World} (hs : g.status = .running)
    (h : ∀ w₁, IW w0.heap.size O ty wg w w₁ → ∃ g' w' es, stepG P false g w₁ = .go g' w' es ∧ Kept w0.R O w₁ w' es ∧
      (ph.rel = true ∨ (O wg ∨ (w₁.heap.size ≤ wg ∧ wg < w'.heap.size)) ∨ ∃ τ, WGo P w0.R w0.heap.size ty wg K τ ph (fun k => O k ∨ (w₁.heap.size ≤ k ∧ k < w'.heap.size)) g' w')) :
    ph.rel = true ∨ O wg ∨ ∃ τ, WGo P w0.R w0.heap.size ty wg K τ ph O g w := by
  by_cases hr : ph.rel = true
  · exact .inl hr
  by_cases hO : O wg
  · exact .inr (.inl hO)
  right; right
  obtain ⟨f, hf⟩ := mkNode (X := World) (A := fun w₁ => IW w0.heap.size O ty wg w w₁)
    (Q := fun w₁ τ => ∃ (g' : Goroutine) (w' : World) (es : Array Event), stepG P false g w₁ = .go g' w' es ∧ KeptX w0.R O wg w₁ w' es ∧ (ph.rel = true → es = #[]) ∧ WGo P w0.R w0.heap.size ty wg K τ ph (growO O w₁ w') g' w')
    (fun w₁ h₁ => by
      obtain ⟨g', w', es, e, hk, hB⟩ := h w₁ h₁
      obtain ⟨st, sm, hl⟩ := h₁.live
      have hlt := (Array.getElem?_eq_some_iff.1 hl).1
      obtain ⟨τ, hτ⟩ := (hB.resolve_left hr).resolve_left (by rintro (h | h); exact hO h; omega)
      exact ⟨τ, g', w', es, e, hk.x, fun h => absurd h hr, hτ⟩)
  exact ⟨.node World f, hs, .inl fun w₁ h₁ => ⟨w₁, hf w₁ h₁⟩⟩

def BW (P : Program) (w0 : WR) (ty : TypeId) (wg : Nat) (K : WK) : Bs P where
  w0 := w0
  Γ := Ph
  main := false
  B := fun O ph g w => ph.rel = true ∨ O wg ∨ ∃ τ, WGo P w0.R w0.heap.size ty wg K τ ph O g w
  step := fun _ _ _ _ hs h => bwStep hs fun w₁ h₁ => h w₁ h₁.sz h₁.rl

variable {w0 : WR} {ty : TypeId} {wg : Nat} {K : WK} {L : List Ent}

theorem Mem.iw {W : WR} {w : WO} {w₁ : World} (h : Mem W w L) (r : IW W.heap.size w.O ty wg w w₁) : Mem W { toWorld := w₁, O := w.O, R := w.R } L := h.rl r.rl

theorem XL_recvW {p : Sem Next} {Kc : Value → List Ent → Ph → Prop} {j : Nat} (z : Value) (hr : ∀ w, p.run P w = .ok (.comm #[rcase K.b z] true (.recv true)) w ∧ p.events P w #[] = #[])
    (h1 : j < K.lim → ∀ v, Kc (.tuple #[v, .bool true]) L (.S j)) (h0 : Kc (.tuple #[z, .bool false]) L (.F j)) : XL (BW P w0 ty wg K) p Kc L (.R j : Ph) := by
  unfold XL
  intro b k cs ops i rest o a ho hw hp hk hn w hm
  by_cases hO : w.O wg
  · exact .inr (.inl hO)
  right; right
  have hst : ∀ w₁, stepG P false (G (b.at a (.inRegion ops (i :: rest) :: k)) cs) w₁ = .comm (G (b.at a (.inRegion ops (i :: rest) :: k)) cs) #[rcase K.b z] true (.recv true) w₁ #[] := fun w₁ => by
    have h := stepG_comm (P := P) (main := false) (cs := cs) (k := k) (rest := rest) ho hw hk (by rw [hp]; exact (hr w₁).1)
    rw [show listed P b.fn a o w₁ = #[] by unfold listed; rw [hp, (hr w₁).2, seen_none]] at h
    exact h
  have hsv : ∀ v, Conc.served (G (b.at a (.inRegion ops (i :: rest) :: k)) cs) v = G (b.at (a.put o.dst v) (.inRegion ops rest :: k)) cs := fun v => by rw [served_G, ho]; rfl
  obtain ⟨f, hf⟩ := mkNode (X := World × Value × Bool) (A := fun x => IW w0.heap.size w.O ty wg w x.1)
    (Q := fun x τ => (x.2.2 = true → j < K.lim → WGo P w0.R w0.heap.size ty wg K τ (.S j) w.O (Conc.served (G (b.at a (.inRegion ops (i :: rest) :: k)) cs) (recvd true x.2.1 true)) x.1) ∧
      (x.2.2 = false → WGo P w0.R w0.heap.size ty wg K τ (.F j) w.O (Conc.served (G (b.at a (.inRegion ops (i :: rest) :: k)) cs) (recvd true z false)) x.1))
    (fun ⟨w₁, v, t⟩ h₁ => by
      cases t with
      | true =>
        by_cases hl : j < K.lim
        · obtain ⟨τ, hτ⟩ := (hn _ _ _ (h1 hl v) { toWorld := w₁, O := w.O, R := w.R } (hm.iw h₁)).resolve_left (by simp [Ph.rel]) |>.resolve_left hO
          exact ⟨τ, fun _ _ => by rw [hsv]; exact hτ, fun h => by cases h⟩
        · exact ⟨.node PEmpty (fun x => x.elim), fun _ h => absurd h hl, fun h => by cases h⟩
      | false =>
        obtain ⟨τ, hτ⟩ := (hn _ _ _ h0 { toWorld := w₁, O := w.O, R := w.R } (hm.iw h₁)).resolve_left (by simp [Ph.rel]) |>.resolve_left hO
        exact ⟨τ, fun h => (by cases h), fun _ => by rw [hsv]; exact hτ⟩)
  refine ⟨.node _ f, rfl, .inr (.inl ⟨j, _, z, rfl, fun w₁ cs' sh => ?_, fun w₁ _ => hst w₁, fun w₁ v hl h₁ => ⟨(w₁, v, true), (hf (w₁, v, true) h₁).1 rfl hl⟩, fun w₁ h₁ => ⟨(w₁, z, false), (hf (w₁, z, false) h₁).2 rfl⟩⟩)⟩
  exact stepG_same rfl rfl rfl w₁

theorem XL_sendW {p : Sem Next} {Kc : Value → List Ent → Ph → Prop} {ph ph' : Ph} {v : Value} (z : Value) (hp' : ph.sends K = some (v, ph')) (hr : ∀ w, p.run P w = .ok (.comm #[scase K.c v z] true .send) w ∧ p.events P w #[] = #[])
    (h : Kc undef L ph') : XL (BW P w0 ty wg K) p Kc L ph := by
  unfold XL
  intro b k cs ops i rest o a ho hw hp hk hn w hm
  by_cases hO : w.O wg
  · exact .inr (.inl hO)
  right; right
  have hst : ∀ w₁, stepG P false (G (b.at a (.inRegion ops (i :: rest) :: k)) cs) w₁ = .comm (G (b.at a (.inRegion ops (i :: rest) :: k)) cs) #[scase K.c v z] true .send w₁ #[] := fun w₁ => by
    have h := stepG_comm (P := P) (main := false) (cs := cs) (k := k) (rest := rest) ho hw hk (by rw [hp]; exact (hr w₁).1)
    rw [show listed P b.fn a o w₁ = #[] by unfold listed; rw [hp, (hr w₁).2, seen_none]] at h
    exact h
  have hsv : ∀ v, Conc.served (G (b.at a (.inRegion ops (i :: rest) :: k)) cs) v = G (b.at (a.put o.dst v) (.inRegion ops rest :: k)) cs := fun v => by rw [served_G, ho]; rfl
  have hrel : ph'.rel ≠ true := by
    cases ph <;> simp [Ph.sends] at hp' <;> (obtain ⟨_, rfl⟩ := hp'; simp [Ph.rel])
  obtain ⟨f, hf⟩ := mkNode (X := World) (A := fun w₁ => IW w0.heap.size w.O ty wg w w₁)
    (Q := fun w₁ τ => WGo P w0.R w0.heap.size ty wg K τ ph' w.O (Conc.served (G (b.at a (.inRegion ops (i :: rest) :: k)) cs) undef) w₁)
    (fun w₁ h₁ => by
      obtain ⟨τ, hτ⟩ := (hn _ _ _ h { toWorld := w₁, O := w.O, R := w.R } (hm.iw h₁)).resolve_left hrel |>.resolve_left hO
      exact ⟨τ, by rw [hsv]; exact hτ⟩)
  exact ⟨.node _ f, rfl, .inr (.inr (.inl ⟨v, ph', _, z, hp', fun w₁ _ => hst w₁, fun w₁ h₁ => ⟨w₁, hf w₁ h₁⟩⟩))⟩

theorem setChan_old {w : World} {c : Nat} {k cap s r : Nat} {buf : Array Value} {cl tm : Bool} (h : k ≠ c) : (w.setChan c cap buf cl s r tm).heap[k]? = w.heap[k]? := by
  simp only [World.setChan]
  rw [Array.getElem?_setIfInBounds_ne (fun e => h e.symm)]
theorem setChan_size {w : World} {c : Nat} {cap s r : Nat} {buf : Array Value} {cl tm : Bool} : (w.setChan c cap buf cl s r tm).heap.size = w.heap.size := by simp [World.setChan]
theorem setChan_self {w : World} {c : Nat} {cap s r : Nat} {buf : Array Value} {cl tm : Bool} (h : c < w.heap.size) : (w.setChan c cap buf cl s r tm).heap[c]? = some (.chan cap buf cl s r tm) := by simp [World.setChan, h]

theorem XL_closeW {p : Sem Next} {Kc : Value → List Ent → Ph → Prop}
    (hr : ∀ (w : World) (s r : Nat), w.heap[K.c]? = some (.chan 0 #[] false s r false) → p.run P w = .ok (.value (.tuple #[])) (w.setChan K.c 0 #[] true s r false) ∧ p.events P w #[] = #[⟨.obj K.c, false, true⟩, ⟨.obj K.c, true, true⟩])
    (h : Kc (.tuple #[]) L .D0) : XL (BW P w0 ty wg K) p Kc L (.C : Ph) := by
  unfold XL
  intro b k cs ops i rest o a ho hw hp hk hn w hm
  by_cases hO : w.O wg
  · exact .inr (.inl hO)
  right; right
  obtain ⟨f, hf⟩ := mkNode (X := World × Nat × Nat) (A := fun x => (¬ w.O K.c ∧ w0.heap.size ≤ K.c ∧ K.c ≠ wg) ∧ IW w0.heap.size w.O ty wg w x.1 ∧ x.1.heap[K.c]? = some (.chan 0 #[] false x.2.1 x.2.2 false))
    (Q := fun x τ => WGo P w0.R w0.heap.size ty wg K τ .D0 w.O (G (b.at (a.put o.dst (.tuple #[])) (.inRegion ops rest :: k)) cs) (x.1.setChan K.c 0 #[] true x.2.1 x.2.2 false))
    (fun ⟨w₁, s, r⟩ ⟨⟨c1, c2, hwgc⟩, h₁, hc⟩ => by
      have h2 : IW w0.heap.size w.O ty wg w (w₁.setChan K.c 0 #[] true s r false) := by
        refine ⟨⟨h₁.rl.os, h₁.rl.tape, h₁.rl.output, by rw [setChan_size]; exact h₁.rl.size, fun k hk hkO => ?_⟩, by rw [setChan_size]; exact h₁.sz, ?_⟩
        · have hne : k ≠ K.c := fun e => hkO.elim (fun hlt => by omega) (fun hO => c1 (e ▸ hO))
          rw [setChan_old hne]
          exact h₁.rl.block k hk hkO
        · obtain ⟨st, sm, hl⟩ := h₁.live
          exact ⟨st, sm, hl.of_block (setChan_old hwgc.symm)⟩
      exact (hn _ _ _ h { toWorld := _, O := w.O, R := w.R } (hm.iw h2)).resolve_left (by simp [Ph.rel]) |>.resolve_left hO)
  refine ⟨.node _ f, rfl, .inr (.inr (.inr (.inl ⟨rfl, fun w₁ s r hh h₁ hc => ⟨(w₁, s, r), G (b.at (a.put o.dst (.tuple #[])) (.inRegion ops rest :: k)) cs, listed P b.fn a o w₁, ?_, fun e he => ?_, hf (w₁, s, r) ⟨hh, h₁, hc⟩⟩⟩)))⟩
  · exact stepG_value ho hw hk (by rw [hp]; exact (hr w₁ s r hc).1)
  · have := mem_listed he
    rw [hp, (hr w₁ s r hc).2] at this
    simpa using this
end
end Go.Proofs.Ytnmhgfeglfcbgaa
