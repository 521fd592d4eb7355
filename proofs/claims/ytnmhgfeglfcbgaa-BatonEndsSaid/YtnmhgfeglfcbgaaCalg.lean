/-
  Proved here: a call after which one stands at another point of what has been agreed on.
  Conditions: none beyond each law's own.
-/
import Derived.Test.YtnmhgfeglfcbgaaCall
import Derived.Conc.EventLaws
namespace Go.Proofs.Ytnmhgfeglfcbgaa
open Go.Conc

section
variable (P : Program) (W : Bs P)
def bodyG (fn : Func) (R : Value → List Ent → W.Γ → Prop) : Exit → St → List Ent → W.Γ → Prop
  | .normal, σ, L, γ | .ret, σ, L, γ => ∀ (a : Act) (w : WO), Rep fn.ntmps σ a → Mem W w L → ∃ v, (results fn a.tmps).run P w = .ok v w ∧ (results fn a.tmps).events P w #[] = #[] ∧ ∃ L', Mem W w L' ∧ R v L' γ
  | _, _, _, _ => False

def CallG (f : FuncId) (args : Array Value) (L : List Ent) (γ : W.Γ) (R : Value → List Ent → W.Γ → Prop) : Prop :=
  ∃ fn c, P.funcs[f]? = some fn ∧ fn.body = some c ∧ (fn.name == "runtime.NumGoroutine") = false ∧ args.size ≤ fn.ntmps ∧ SC P fn.ntmps W c (bodyG P W fn R) (St0 args) L γ
end

section
variable {P : Program} {W : Bs P} {n : Nat} {σ : St} {L : List Ent} {γ : W.Γ}
theorem CallG_enter {f : FuncId} {fn : Func} {c : Code} {args : Array Value} {R : Value → List Ent → W.Γ → Prop} (hf : P.funcs[f]? = some fn) (hb : fn.body = some c)
    (hn : args.size ≤ fn.ntmps) (h : SC P fn.ntmps W c (bodyG P W fn R) (St0 args) L γ) (hnm : (fn.name == "runtime.NumGoroutine") = false := by kernel_rfl) : CallG P W f args L γ R :=
  ⟨fn, c, hf, hb, hnm, hn, h⟩
theorem CallG.enters {f : FuncId} {args : Array Value} {R : Value → List Ent → W.Γ → Prop} (h : CallG P W f args L γ R) : Enters P f := by
  obtain ⟨fn, c, h1, h2, h3, _⟩ := h
  exact Enters.of h1 h2 h3

theorem XL_callG {p : Sem Next} {K : Value → List Ent → W.Γ → Prop} {f : FuncId} {args : Array Value}
    (hr : ∀ w, p.run P w = .ok (.enter f args) w) (he : ∀ w, p.events P w #[] = #[]) (hc : CallG P W f args L γ K) : XL W p K L γ := by
  unfold XL
  intro b k cs ops i rest o a ho hw hp hk hn w hm
  obtain ⟨fn, c, hf, hb, hnm, hna, hbody⟩ := hc
  refine W.step _ _ _ _ rfl fun w₁ _ r => ?_
  have hev : listed P b.fn a o w₁ = #[] := by unfold listed; rw [hp, he, seen_none]
  refine ⟨_, w₁, _, stepG_enter ho hw hk (by rw [hp]; exact hr w₁), by rw [hev]; exact Kept.idle _ _ _, ?_⟩
  rw [enter_at args hf hb, show (fun k => w.O k ∨ (w₁.heap.size ≤ k ∧ k < w₁.heap.size)) = w.O from WO.same { toWorld := w₁, O := w.O, R := w.R }]
  have hfin : ∀ v, (b.at a (.inRegion ops (i :: rest) :: k)).finish v = b.at (a.put o.dst v) (.inRegion ops rest :: k) := fun v => by rw [Frame.finish_at, ho]; rfl
  have hleave : ∀ (todo : List Item) (σ' : St) (L' : List Ent) (γ' : W.Γ), (∀ (a' : Act) (w' : WO), Rep fn.ntmps σ' a' → Mem W.w0 w' L' → ∃ v, (results fn a'.tmps).run P w' = .ok v w' ∧ (results fn a'.tmps).events P w' #[] = #[] ∧ ∃ L'', Mem W.w0 w' L'' ∧ K v L'' γ') →
      At fn.ntmps W γ' (fun a' => G { (base f).at a' todo with mode := .returning } (b.at a (.inRegion ops (i :: rest) :: k) :: cs)) σ' L' := by
    intro todo σ' L' γ' q
    refine At.go (fun _ => rfl) fun a' w' ha' hw' => ?_
    obtain ⟨v, h1, h2, L'', h3, h4⟩ := q a' w' ha' hw'
    refine ⟨_, w', _, stepG_leave (b := base f) rfl ha'.defers hf h1 h2, Kept.idle _ _ _, ?_⟩
    rw [hfin, show (w'.to w'.toWorld).O = w'.O from WO.same w']
    exact hn v L'' γ' h4 w' h3
  unfold SC at hbody
  refine hbody (base f) [] _ (by simp [base]) (fun e σ' L' γ' q => ?_) _ { toWorld := w₁, O := w.O, R := w.R } (rep_enter fn args hna) (hm.rl r)
  cases e with
  | normal => exact At.idle (fun _ => rfl) (fun _ _ _ => stepG_end) (hleave [] σ' L' γ' q)
  | ret => exact fun todo => hleave todo σ' L' γ' q
  | exit id => exact q.elim
  | goto l => exact q.elim
  | panic ch => exact q.elim
  | outgrown => exact q.elim

/-- It calls, and stands at another point behind it. -/
theorem SL_callG {dst : Option Nat} {ty : TypeId} {pos : String} {aft : Array Edge} {gd : Option (Nat × Bool)} {ops : Array Oper} {rest : List Oper} {Q : Exit → St → List Ent → W.Γ → Prop}
    {f : Operand} {l : List Operand} {tys : Array TypeId} {k : Nat} {fst cap : List Value} (R : Value → List Ent → W.Γ → Prop) (hf : ev σ f = .func (.func k) fst.toArray cap.toArray)
    (hc : CallG P W k (fst ++ l.map (ev σ) ++ cap).toArray L γ R)
    (hg : wantedσ ops σ ⟨dst, .call { callee := .value f, args := l.toArray, argTypes := tys }, ty, pos, aft, gd⟩ = true) (hd : dstOk n dst = true)
    (h : ∀ v L' γ', R v L' γ' → SL P n W .plain ops Q rest (updO σ dst v) L' γ') :
    SL P n W .plain ops Q (⟨dst, .call { callee := .value f, args := l.toArray, argTypes := tys }, ty, pos, aft, gd⟩ :: rest) σ L γ :=
  SL_X hg hd ((XL_callG (fun w => (run_call hf hc.enters w).1) (fun w => (run_call hf hc.enters w).2) hc).mono h)

/-- An operation in a drawn region. -/
theorem SL_Xs {ops : Array Oper} {rest : List Oper} {o : Oper} {Q : Exit → St → List Ent → W.Γ → Prop} {Ls : List Ent} (hk : 2 ≤ kindOf o.op) (hg : wantedσ ops σ o = true) (hd : dstOk n o.dst = true)
    (h : XL W (execOp (ev σ) o) (fun v L' γ' => (kindOf o.op = 2 → L.Sublist L') ∧ (Ls.Sublist L → Ls.Sublist L') ∧ SL P n W (.sched Ls) ops Q rest (updO σ o.dst v) L' γ') L γ) :
    SL P n W (.sched Ls) ops Q (o :: rest) σ L γ := by
  unfold SL at *
  exact ⟨hd, fun h1 => by omega, fun _ => ⟨fun _ => h, fun h1 => by rw [hg] at h1; cases h1⟩⟩

theorem run_closes {dst : Option Nat} {ty : TypeId} {pos : String} {aft : Array Edge} {gd : Option (Nat × Bool)} {x : Operand} {tys : Array TypeId} {c : Nat} (hx : ev σ x = .chan (some c)) (w : World) (s r : Nat) (hc : w.heap[c]? = some (.chan 0 #[] false s r false)) :
    (execOp (ev σ) ⟨dst, .call { callee := .builtin .close, args := #[x], argTypes := tys }, ty, pos, aft, gd⟩).run P w = .ok (.value (.tuple #[])) (w.setChan c 0 #[] true s r false) ∧
    (execOp (ev σ) ⟨dst, .call { callee := .builtin .close, args := #[x], argTypes := tys }, ty, pos, aft, gd⟩).events P w #[] = #[⟨.obj c, false, true⟩, ⟨.obj c, true, true⟩] := by
  have h1 := run_close_open (P := P) tys ty hc
  have h2 := events_close_open (P := P) (es := #[]) tys ty hc
  constructor
  · simp [execOp, resolve, invoke, hx, builtin, h1, World.setChan]
  · simp [execOp, resolve, invoke, hx, builtin, h2]

theorem leaveG0 {fn : Func} {R : Value → List Ent → W.Γ → Prop} (hr : fn.results = #[]) {L' : List Ent} (hL : ∀ w, Mem W w L → Mem W w L') (h : R (.tuple #[]) L' γ) : bodyG P W fn R .normal σ L γ := by
  intro a w _ hw
  exact ⟨_, results_none hr _ _ _, by simp [results, hr], L', hL w hw, h⟩
end
section
variable {P : Program} {W : Bs P} {γ γ' : W.Γ} {L L' : List Ent} {g g' : Goroutine}
/-- All is well here, wherever these pieces lie. -/
def AtL (W : Bs P) (γ : W.Γ) (g : Goroutine) (L : List Ent) : Prop := ∀ w : WO, Mem W.w0 w L → W.B w.O γ g w
theorem AtL.idle (hs : g.status = .running) (h : ∀ w, stepG P W.main g w = .go g' w #[]) (hn : AtL W γ g' L) : AtL W γ g L := fun w hw =>
  W.step _ _ _ _ hs fun w₁ _ r => ⟨g', w₁, #[], h w₁, Kept.idle _ _ _, by
    rw [show (fun k => w.O k ∨ (w₁.heap.size ≤ k ∧ k < w₁.heap.size)) = w.O from WO.same { toWorld := w₁, O := w.O, R := w.R }]
    exact hn { toWorld := w₁, O := w.O, R := w.R } (hw.rl r)⟩
theorem AtL.op {b : Frame} {k : List Item} {cs : List Frame} {ops : Array Oper} {i : Nat} {rest : List Nat} {o : Oper} {a : Act} {p : Sem Next} {K : Value → List Ent → W.Γ → Prop} (hx : XL W p K L γ)
    (ho : ops[i]? = some o) (hw : Region.wanted o (yielded ops a.tmps) = true) (hp : execOp a.eval o = p) (hk : b.kind ≠ .early)
    (hn : ∀ v L' γ', K v L' γ' → AtL W γ' (G (b.at (a.put o.dst v) (.inRegion ops rest :: k)) cs) L') : AtL W γ (G (b.at a (.inRegion ops (i :: rest) :: k)) cs) L := by
  unfold XL at hx
  exact fun w hm => hx b k cs ops i rest o a ho hw hp hk (fun v L' γ' q w hm => hn v L' γ' q w hm) w hm
end

theorem ev_act (a : Act) {o : Oper} : execOp a.eval o = execOp (ev fun i => a.tmps.getD i undef) o := by
  have : a.eval = ev fun i => a.tmps.getD i undef := by funext x; cases x <;> rfl
  rw [this]

end Go.Proofs.Ytnmhgfeglfcbgaa
