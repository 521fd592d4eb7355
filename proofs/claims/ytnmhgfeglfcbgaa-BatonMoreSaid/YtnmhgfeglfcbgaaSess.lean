/-
  Proved here: a call that makes a group, starts workers, and waits for them, as a rule of a walk: within, one walks in company; without, alone.
  Conditions: none beyond each law's own.
-/
import Derived.Test.YtnmhgfeglfcbgaaTurns
namespace Go.Proofs.Ytnmhgfeglfcbgaa
open Go.Conc
open Go.ConcR (KK wgBlock WgAt stA smA rd wr DC0)
open Go.ConcN (WgLive)

/-- All is well with one who has nobody beside him. -/
def BO (P : Program) (Post : Value → World → Prop) (w0 : WR) : Bs P where
  w0 := w0
  Γ := Unit
  main := true
  B := fun O _ g w => ∀ n ty wg, Well P Post w0.R w0.heap.size ty wg O (offGh n) g w
  step := fun _ _ _ _ hs h n ty wg => Well.silent hs fun w₁ hz r => by
    obtain ⟨g', w', es, e, hk, hB⟩ := h w₁ hz r
    exact ⟨g', w', es, e, hk, hB n ty wg⟩
instance (P : Program) (Post : Value → World → Prop) (w0 : WR) : Subsingleton (BO P Post w0).Γ := inferInstanceAs (Subsingleton Unit)

/-- What is there when the call begins: all that may be read is old. -/
def inner (w : WO) : WR := { toWorld := w.toWorld, R := w.rd }
/-- The old blocks that may be read. -/
def olds (W : WR) : Ent := ⟨fun k => k < W.heap.size ∧ W.R k, fun w => ∀ k, k < W.heap.size → W.R k → w.heap[k]? = W.heap[k]?, fun _ _ h hp k h1 h2 => (h k ⟨h1, h2⟩).trans (hp k h1 h2), false⟩

theorem Rd.inner {α : Type} {A : Option Addr} {size : Nat} {enc : α → List Value} {l : List α} {w : WO} (h : Rd A size enc l w) {L : List Ent} (hL : olds (inner w) ∈ L) : Knows (inner w) L (Rd A size enc l) := by
  intro w' hw' hne
  obtain ⟨b, off, rfl, h1, h2⟩ := h hne
  refine ⟨b, off, rfl, .inr (by rw [hw'.bnd]; exact h1), fun i j x u hi hj => ?_⟩
  have hc := h2 i j x u hi hj
  have hlt : b < w.heap.size := by
    rcases Nat.lt_or_ge b w.heap.size with h | h
    · exact h
    · simp [World.cell?, Array.getElem?_eq_none h] at hc
  have e := (hw'.ok _ hL).holds b hlt h1
  have e' : w'.heap[b]? = w.heap[b]? := e
  simp only [World.cell?, e'] at hc ⊢
  exact hc

theorem Mem.leave {W : WR} {w w' : WO} {L Li : List Ent} (h : Mem W w L) (h' : Mem (inner w) w' (Li ++ [olds (inner w)])) (hm : ∀ e ∈ Li, e.mine = true) (hO : ∀ k, w'.O k → w.heap.size ≤ k) :
    Mem W { toWorld := w'.toWorld, O := fun k => w.O k ∨ w'.O k, R := w.R } (Li ++ L) := by
  have hsz : w.heap.size ≤ w'.heap.size := h'.size
  have hi : ∀ e ∈ Li, ∀ k, e.S k → w'.O k := fun e he k hk => h'.own e (List.mem_append_left _ he) k hk (.inl (hm e he))
  refine ⟨h'.os.trans h.os, h'.tape.trans h.tape, h'.output.trans h.output, Nat.le_trans h.size hsz, fun e he => ?_, ?_, fun e he k hk hmn => ?_, h.bnd, fun e he k hk hlt => ?_⟩
  · rcases List.mem_append.1 he with he | he
    · exact h'.ok e (List.mem_append_left _ he)
    · have ho := h.ok e he
      refine ⟨fun k hk => Nat.lt_of_lt_of_le (ho.lt k hk) hsz, e.loc w.toWorld w'.toWorld (fun k hk => ?_) ho.holds⟩
      refine (h'.ok (olds (inner w)) (by simp)).holds k (ho.lt k hk) ?_
      rcases Nat.lt_or_ge k W.heap.size with h1 | h1
      · exact .inr (by rw [h.bnd]; exact h.old e he k hk h1)
      · exact .inl (h.own e he k hk (.inr h1))
  · refine List.pairwise_append.2 ⟨(List.pairwise_append.1 h'.sep).1, h.sep, fun a ha b hb k hak hbk => ?_⟩
    have h1 := hO k (hi a ha k hak)
    have h2 := (h.ok b hb).lt k hbk
    omega
  · rcases List.mem_append.1 he with he | he
    · exact .inr (hi e he k hk)
    · exact .inl (h.own e he k hk hmn)
  · rcases List.mem_append.1 he with he | he
    · have h1 := hO k (hi e he k hk)
      have h2 := h.size
      have hlt : k < W.heap.size := hlt
      omega
    · exact h.old e he k hk hlt

/-- While there is no group it does not matter which. -/
theorem Well.retype {P : Program} {Post : Value → World → Prop} {R : Nat → Prop} {N m : Nat} {O : Nat → Prop} {g : Goroutine} {w : World} {ty ty1 : TypeId} {wg wg1 : Nat} (h : Well P Post R N ty wg O (offGh m) g w) : Well P Post R N ty1 wg1 O (offGh m) g w := by
  intro Sh gs t sl D hx hc
  have hb : ∀ i, (offGh m).base ≤ i → i < (offGh m).n → False := fun i h1 h2 => by
    have h1 : m ≤ i := h1
    have h2 : i < m := h2
    omega
  refine h Sh gs t sl D hx ⟨hc.size, hc.base1, hc.baseN, hc.off, hc.small, hc.sz, hc.zero, hc.lv, fun i h1 h2 => ?_, hc.fit, hc.chb, hc.chc, fun i h1 h2 => (hb i h1 h2).elim, hc.chO, hc.chD, hc.own, hc.ap, hc.ti, fun e => absurd rfl e, hc.deaf0, fun e => absurd rfl e, fun i h1 h2 => (hb i h1 h2).elim, (fun e => by cases e), trivial⟩
  obtain ⟨x, h3, h4, h5⟩ := hc.wk i h1 h2
  have hq := hc.lv i h1 h2
  refine ⟨x, h3, ?_, h5⟩
  unfold WSit at h4 ⊢
  rw [hq] at h4 ⊢
  exact h4

section
variable {P : Program} {Post : Value → World → Prop} {w0 : WR} {n : Nat} {Q : Exit → St → List Ent → Unit → Prop} {σ : St} {L : List Ent}

/-- How such a call ends. -/
def sessQ (Q : Exit → St → List Ent → Unit → Prop) (w : WO) (L : List Ent) : Exit → St → List Ent → Gh → Prop
  | .ret, σ, L', γ => γ.acq = true ∧ γ.deaf = 0 ∧ ∃ Li, (∀ e ∈ Li, e.mine = true) ∧ (∀ w' : WO, Mem (inner w) w' L' → Mem (inner w) w' (Li ++ [olds (inner w)])) ∧ Q .ret σ (Li ++ L) ()
  | _, _, _, _ => False

theorem SC_session {id d : Nat} {o : Oper} {rest : Code} {ty : TypeId} (hd : o.dst = some d) (hdn : d < n) (hg : o.guard = none)
    (hr : ∀ (w : World) (ρ : Operand → Value), (execOp ρ o).run P w = .ok (.value (.pointer (some ⟨w.heap.size, 0, none⟩))) (w.alloc (wgBlock ty 0 0)) ∧ (execOp ρ o).events P w #[] = #[])
    (h : ∀ (w : WO) (m : Nat), Mem w0 w L → SC P n (BM P Post (inner w) ty w.heap.size) rest (sessQ Q w L) (upd σ d (.pointer (some ⟨w.heap.size, 0, none⟩))) [olds (inner w)] (opnGh m)) :
    SC P n (BO P Post w0) (.seq (.region id #[o] false) rest) Q σ L () := by
  unfold SC at *
  intro b k cs hk hc
  refine At.idle (fun _ => rfl) (fun _ _ _ => stepG_seq) ?_
  refine At.idle (fun _ => rfl) (fun _ _ _ => stepG_region) ?_
  intro a w ha hw m ty1 wg1
  refine Well.retype (ty := ty) (wg := 0) (Well.own fun hown _ _ => ?_)
  refine Well.enter rfl fun w₁ hsz r => ?_
  have hw1 := hw.rl r
  have hstep := stepG_value (P := P) (main := true) (b := b) (k := .code rest :: k) (cs := cs) (ops := #[o]) (i := 0) (rest := []) (a := a) (w := w₁) (by rfl) (by unfold Region.wanted; rw [hg]) hk (hr w₁ _).1
  rw [show listed P b.fn a o w₁ = #[] by unfold listed; rw [(hr w₁ _).2, seen_none]] at hstep
  refine ⟨_, hstep, ?_⟩
  let wi : WO := { toWorld := w₁, O := w.O, R := w.R }
  -- within, right behind the group's making
  have hin : ∀ w2 : World, w2 = w₁.alloc (wgBlock ty 0 0) → Mem (inner wi) { toWorld := w2, O := fun _ => False, R := wi.rd } [olds (inner wi)] := by
    rintro w2 rfl
    refine ⟨rfl, rfl, rfl, by show w₁.heap.size ≤ _; simp, fun e he => ?_, by simp, fun e he k hk hmn => ?_, rfl, fun e he k hk hlt => ?_⟩
    · rw [List.mem_singleton] at he
      subst he
      refine ⟨fun k hk => ?_, fun k h1 _ => heap_alloc_old w₁ _ h1⟩
      have h1 : k < w₁.heap.size := hk.1
      show k < (w₁.alloc _).heap.size
      simp; omega
    · rw [List.mem_singleton] at he
      subst he
      rcases hmn with hmn | hmn
      · cases hmn
      · have h1 : k < w₁.heap.size := hk.1
        have hmn : w₁.heap.size ≤ k := hmn
        omega
    · rw [List.mem_singleton] at he
      subst he
      exact hk.2
  have hbody := h wi m hw1 b k cs hk (fun e σ' L' γ' q => ?_)
  · have hrun : At n (BM P Post (inner wi) ty wi.heap.size) (opnGh m) (fun a => G (b.at a (.inRegion #[o] [] :: .code rest :: k)) cs) (upd σ d (.pointer (some ⟨w₁.heap.size, 0, none⟩))) [olds (inner wi)] :=
      At.idle (fun _ => rfl) (fun _ _ _ => stepG_region_end) hbody
    have := hrun (a.put o.dst (.pointer (some ⟨w₁.heap.size, 0, none⟩))) { toWorld := w₁.alloc (wgBlock ty 0 0), O := fun _ => False, R := wi.rd } (by rw [hd]; exact ha.put hdn _) (hin _ rfl)
    have hR : (fun k => w.O k ∨ w0.R k) = wi.rd := by
      funext k
      show _ = (w.O k ∨ w.R k)
      rw [hw.bnd]; rfl
    rw [hR]
    exact this
  · cases e with
    | ret =>
      obtain ⟨hacq, hdf, Li, hLi, hsub, hQ⟩ := q
      intro todo a' w' ha' hw'
      refine Well.own fun hown' _ _ => ?_
      refine Well.leave (R0 := w0.R) (Oold := w.O) (N0 := w0.heap.size) (ty0 := 0) (wg0 := 0) hacq hdf (fun k hk => .inr (by show w.R k; rw [hw.bnd]; exact hk)) (fun k hk => ⟨.inl hk, (hown k hk).2.2, (hown k hk).1⟩) hw1.size ?_
      have := hc .ret σ' (Li ++ L) () hQ todo a' { toWorld := w'.toWorld, O := fun k => w.O k ∨ w'.O k, R := w.R } ha' (Mem.leave (w := wi) hw1 (hsub w' hw') hLi fun k hk => (hown' k hk).1)
      exact this _ _ _
    | _ => exact q.elim
end
end Go.Proofs.Ytnmhgfeglfcbgaa
