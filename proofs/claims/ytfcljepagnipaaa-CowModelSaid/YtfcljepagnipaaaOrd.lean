/-
  Proved here: a region that draws its order, with operations of three sorts: those whose value hangs on no world, those that read memory, those that turn it; one walk, in an order that takes all values as early as may be, serves every order.
  Conditions: the closed check 'planOk' on the region.
-/
import Derived.WalkKit
import Derived.Orders
namespace Go.Proofs.Ytfcljepagnipaaa
open Go.RowKit

/-- 0: a value of its operands alone · 1: it reads memory, or what is known of it · 2: it makes memory, or calls · 3: it writes. -/
def kindOf : Op → Nat
  | .move _ | .assign _ | .pick .. | .extract .. | .unOp .. | .binOp .. | .fieldAddr .. | .build .. | .makeFunc .. | .nilCheck .. | .convert .. | .makeInterface .. => 0
  | .call { callee := .builtin .len, .. } | .call { callee := .builtin .cap, .. } | .call { callee := .builtin .max, .. } | .call { callee := .builtin .min, .. } => 0
  | .load .. | .indexAddr .. | .slice .. | .index .. | .field .. | .typeAssert .. => 1
  | .alloc _ | .box .. | .buildSlice .. | .makeSlice .. | .makeChan .. => 2
  | .call { callee := .value _, .. } => 2
  | _ => 3

def kindAt (ops : Array Oper) (i : Nat) : Nat := ((ops[i]?).map (fun o => kindOf o.op)).getD 3
/-- No writer has come up yet. -/
def still (ops : Array Oper) (listed : Array Bool) : Bool := (List.range ops.size).all fun j => kindAt ops j != 3 || !listed.getD j true
/-- j waits for i, by itself or through others. -/
def waitsFor (ops : Array Oper) : Nat → Nat → Nat → Bool
  | 0, _, _ => false
  | f + 1, j, i => match ops[j]? with
    | some o => (o.after.any fun e => Region.binds .any e && e.on == i) || (o.after.any fun e => Region.binds .any e && (match e.ground with | .phase => false | _ => waitsFor ops f e.on i))
    | none => false
/-- Every writer that has not come up waits for i. -/
def waited (ops : Array Oper) (listed : Array Bool) (i : Nat) : Bool := (List.range ops.size).all fun j => kindAt ops j != 3 || listed.getD j true || waitsFor ops 8 j i
/-- Whatever has come up, has come up behind all that it waits for. -/
def closedB (ops : Array Oper) (listed : Array Bool) : Bool := (List.range ops.size).all fun j => !listed.getD j true || (match ops[j]? with
  | some o => o.after.all fun e => !Region.binds .any e || listed.getD e.on false
  | none => true)

/-- An order in which to walk a region; where several that turn memory may come next, each of them. -/
inductive Plan where
  | fin
  | op (i : Nat) (p : Plan)
  | opS (i : Nat) (p : Plan)
  | alt (p q : Plan)
def Plan.len : Plan → Nat
  | .fin => 0
  | .op _ p => p.len + 1
  | .opS _ p => p.len + 1
  | .alt p _ => p.len
def Plan.heads : Plan → List Nat
  | .fin => []
  | .op i _ => [i]
  | .opS _ _ => []
  | .alt p q => p.heads ++ q.heads
def Plan.ops : List Nat → Plan → Plan
  | [], p => p
  | i :: r, p => .op i (Plan.ops r p)
/-- These are read off the pieces that nothing in the region touches. -/
def Plan.opsS : List Nat → Plan → Plan
  | [], p => p
  | i :: r, p => .opS i (Plan.opsS r p)

def planOk (ops : Array Oper) : Bool → Plan → Array Bool → Bool
  | _, .fin, listed => (Region.ready .any ops listed).isEmpty
  | hd, .op i r, listed =>
    (match kindAt ops i with
      | 0 => !hd && ((Region.ready .any ops listed).contains i && Region.free .any ops listed i)
      | 1 => !hd && ((Region.ready .any ops listed).contains i && Region.free .any ops listed i && still ops listed && waited ops listed i && closedB ops listed)
      | _ => hd || (match Region.ready .any ops listed with | [j] => j == i | _ => false)) && planOk ops false r (listed.setIfInBounds i true)
  | hd, .opS i r, listed => !hd && (match kindAt ops i with | 0 => true | 1 => true | _ => false) && (Region.ready .any ops listed).contains i && Region.free .any ops listed i && planOk ops false r (listed.setIfInBounds i true)
  | hd, .alt p q, listed => (hd || (!(Region.ready .any ops listed).isEmpty && (Region.ready .any ops listed).all ((p.heads ++ q.heads).contains ·))) && p.len == q.len && planOk ops true p listed && planOk ops true q listed

section
variable {P : Program} {ops : Array Oper} {Q : Exit → Act → World → Prop} {D C : World → Prop}

def wpAnyC (P : Program) (ops : Array Oper) (D C : World → Prop) (Q : Exit → Act → World → Prop) : Nat → Array Bool → Act → World → Prop
  | 0, listed, a, w => Region.ready .any ops listed = [] ∧ Q .normal a w
  | fuel + 1, listed, a, w => (Region.ready .any ops listed = [] → Q .normal a w) ∧
    ∀ i ∈ Region.ready .any ops listed, wpOp P ops Q i (fun a' w' => D w' ∧ (still ops (listed.setIfInBounds i true) = true → C w') ∧ wpAnyC P ops D C Q fuel (listed.setIfInBounds i true) a' w') a w

theorem wpAnyC_any : ∀ (fuel : Nat) (listed : Array Bool) (a : Act) (w : World), wpAnyC P ops D C Q fuel listed a w → wpAny P .any ops Q fuel listed a w
  | 0, _, _, _, h => h
  | fuel + 1, _, _, _, h => ⟨h.1, fun i hi => wpOp_mono (fun a' w' h' => wpAnyC_any fuel _ a' w' h'.2.2) (h.2 i hi)⟩

theorem wpAnyC_mono {C' : World → Prop} (hC : ∀ w, C w → C' w) : ∀ (fuel : Nat) (listed : Array Bool) (a : Act) (w : World), wpAnyC P ops D C Q fuel listed a w → wpAnyC P ops D C' Q fuel listed a w
  | 0, _, _, _, h => h
  | fuel + 1, _, _, _, h => ⟨h.1, fun i hi => wpOp_mono (fun a' w' h' => ⟨h'.1, fun hs => hC _ (h'.2.1 hs), wpAnyC_mono hC fuel _ a' w' h'.2.2⟩) (h.2 i hi)⟩

theorem still_of {listed : Array Bool} {i : Nat} (h : still ops (listed.setIfInBounds i true) = true) : still ops listed = true := by
  unfold still at *
  rw [List.all_eq_true] at *
  intro j hj
  have h1 := h j hj
  by_cases e : i = j
  · subst e
    by_cases hs : i < listed.size
    · have : (listed.setIfInBounds i true).getD i true = true := by simp
      rw [this] at h1
      simp at h1 ⊢
      exact .inl h1
    · have : listed.setIfInBounds i true = listed := by rw [Array.setIfInBounds, dif_neg hs]
      rwa [this] at h1
  · rwa [getD_set_ne true e] at h1

theorem wpAnyC_off {C' : World → Prop} : ∀ (fuel : Nat) (listed : Array Bool) (a : Act) (w : World), still ops listed = false → wpAnyC P ops D C Q fuel listed a w → wpAnyC P ops D C' Q fuel listed a w
  | 0, _, _, _, _, h => h
  | fuel + 1, listed, _, _, hs, h => ⟨h.1, fun i hi => wpOp_mono (fun a' w' h' => by
      have hs' : still ops (listed.setIfInBounds i true) = false := by
        rw [← Bool.not_eq_true]; intro hc; rw [still_of hc] at hs; cases hs
      exact ⟨h'.1, fun hc => (by rw [hs'] at hc; cases hc), wpAnyC_off fuel _ a' w' hs' h'.2.2⟩) (h.2 i hi)⟩

/-- In state 'a', in every world of the class, operation 'o' leaves 'v' in its slot. -/
def YieldsE (P : Program) (ops : Array Oper) (E : World → Prop) (o : Oper) (v : Value) (a : Act) : Prop :=
  (Region.wanted o (yielded ops a.tmps) = true ∧ ∀ w, E w → (execOp a.eval o).run P w = .ok (.value v) w) ∨
  (Region.wanted o (yielded ops a.tmps) = false ∧ v = undef)

variable {E : World → Prop}
theorem YieldsE.wpOp {i : Nat} {o : Oper} {v : Value} {a : Act} (hi : ops[i]? = some o) (hy : YieldsE P ops E o v a)
    {K : Act → World → Prop} {w : World} (hw : E w) (h : K (a.put o.dst v) w) : wpOp P ops Q i K a w := by
  unfold Go.wpOp
  simp only [hi]
  rcases hy with ⟨hg, hv⟩ | ⟨hg, rfl⟩
  · simp only [hg, if_true, Oper.wp, hv w hw, Oper.upon]; exact .inl h
  · simp only [hg, Bool.false_eq_true, if_false]; exact h

theorem YieldsE.of_same {o : Oper} {v : Value} {a a' : Act} (hy : YieldsE P ops E o v a) (he : execOp a'.eval o = execOp a.eval o)
    (hw : Region.wanted o (yielded ops a'.tmps) = Region.wanted o (yielded ops a.tmps)) : YieldsE P ops E o v a' := by
  unfold YieldsE at *
  rw [he, hw]
  exact hy

theorem wpOp_putE {j : Nat} {oi oj : Oper} {v : Value} (hj : ops[j]? = some oj) (hap : oi.apart ops oj = true)
    (hsi : ∀ cs b, oi.op ≠ .select cs b) (hsj : ∀ cs b, oj.op ≠ .select cs b)
    (hQ : ∀ c a w, ¬ Q (.panic c) a w) {K : Act → World → Prop} {a : Act} {w : World}
    (hy : YieldsE P ops E oi v a) (h : wpOp P ops Q j K (a.put oi.dst v) w) :
    wpOp P ops Q j (fun a' w' => YieldsE P ops E oi v a' ∧ K (a'.put oi.dst v) w') a w := by
  obtain ⟨h1, h2, h3⟩ := Oper.apart_spec hap
  have keep : ∀ (a : Act), YieldsE P ops E oi v a → ∀ u, YieldsE P ops E oi v (a.put oj.dst u) := fun a hy u =>
    hy.of_same (execOp_put oi hsi a oj.dst u h3) (wanted_put oi a oj.dst u h3)
  have keepD : ∀ d, YieldsE P ops E oi v { a with defers := d :: a.defers } := fun d => hy.of_same rfl rfl
  unfold wpOp at *
  simp only [hj] at *
  rw [wanted_put oj a oi.dst v h1] at h
  split
  · rename_i hw
    simp only [hw, if_true] at h
    rcases h with h | ⟨hasks, hlets⟩
    case inr => exact .inr ⟨by unfold Oper.asks at *; rw [execOp_put oj hsj a oi.dst v h1] at hasks; exact hasks, hlets⟩
    refine .inl ?_
    unfold Oper.wp at *
    rw [execOp_put oj hsj a oi.dst v h1] at h
    generalize (execOp a.eval oj).run P w = r at *
    cases r with
    | ok n w' =>
      cases n <;> simp only [Oper.upon] at h ⊢
      case value u => exact ⟨keep a hy u, by rw [← Act.put_comm a v u h2]; exact h⟩
      case skip => exact ⟨keep a hy _, by rw [← Act.put_comm a v undef h2]; exact h⟩
      case defer d =>
        refine ⟨keep _ (keepD d) _, ?_⟩
        rw [← Act.put_comm _ v undef h2, ← Act.put_defers]
        exact h
      case enter f args =>
        refine Calls.mono h fun e w'' he => ?_
        cases e with
        | returned u => exact ⟨keep a hy u, by rw [← Act.put_comm a v u h2]; exact he⟩
        | panicked c => exact (hQ _ _ _ he).elim
        | outgrown => exact he
      case row row args => exact Rows.mono h fun u w'' he => ⟨keep a hy u, by rw [← Act.put_comm a v u h2]; exact he⟩
    | halt x w' =>
      cases x <;> simp only [Oper.upon] at h ⊢
      case panic u => exact (hQ _ _ _ h).elim
  · rename_i hw
    simp only [hw] at h
    exact ⟨keep a hy _, by rw [← Act.put_comm a v undef h2]; exact h⟩

theorem still_set {listed : Array Bool} {i : Nat} (hk : kindAt ops i ≠ 3) (h : still ops listed = true) : still ops (listed.setIfInBounds i true) = true := by
  unfold still at *
  rw [List.all_eq_true] at *
  intro j hj
  by_cases e : i = j
  · subst e; simp [hk]
  · rw [getD_set_ne true e]; exact h j hj

theorem closed_spec {listed : Array Bool} (h : closedB ops listed = true) {j : Nat} {o : Oper} (ho : ops[j]? = some o) (hj : listed.getD j true = true) :
    ∀ e ∈ o.after, Region.binds .any e = true → listed.getD e.on false = true := by
  unfold closedB at h
  rw [List.all_eq_true] at h
  have := h j (List.mem_range.2 (Array.getElem?_eq_some_iff.1 ho).1)
  rw [hj, ho] at this
  simp only [Bool.not_true, Bool.false_or] at this
  rw [Array.all_eq_true_iff_forall_mem] at this
  intro e he hb
  have := this e he
  rw [hb] at this
  simpa using this

theorem closed_set {listed : Array Bool} {i : Nat} (h : closedB ops listed = true) (hr : i ∈ Region.ready .any ops listed) : closedB ops (listed.setIfInBounds i true) = true := by
  have h0 := h
  unfold closedB
  rw [List.all_eq_true]
  intro j hj
  cases ho : ops[j]? with
  | none => simp
  | some o =>
    simp only [Bool.or_eq_true, Bool.not_eq_true']
    by_cases hij : i = j
    · subst hij
      right
      rw [Array.all_eq_true_iff_forall_mem]
      intro e he
      obtain ⟨_, o', ho', hall⟩ := mem_ready.1 hr
      rw [ho] at ho'; cases ho'
      cases hb : Region.binds .any e with
      | false => rfl
      | true => simpa using getD_set_true (hall e he hb)
    · rw [getD_set_ne true hij]
      cases hl : listed.getD j true with
      | false => exact .inl rfl
      | true =>
        right
        rw [Array.all_eq_true_iff_forall_mem]
        intro e he
        cases hb : Region.binds .any e with
        | false => rfl
        | true => simpa using getD_set_true (closed_spec h0 ho hl e he hb)

theorem waits_listed {listed : Array Bool} (hc : closedB ops listed = true) {i : Nat} : ∀ (f j : Nat) (o : Oper), ops[j]? = some o → (∀ e ∈ o.after, Region.binds .any e = true → listed.getD e.on false = true) →
    waitsFor ops f j i = true → listed.getD i false = true
  | 0, _, _, _, _, h => by cases h
  | f + 1, j, o, ho, hall, h => by
    unfold waitsFor at h
    rw [ho] at h
    simp only [Bool.or_eq_true] at h
    rcases h with h | h
    · rw [Array.any_eq_true'] at h
      obtain ⟨e, he, hb⟩ := h
      simp only [Bool.and_eq_true, beq_iff_eq] at hb
      rw [← hb.2]
      exact hall e he hb.1
    · rw [Array.any_eq_true'] at h
      obtain ⟨e, he, hb⟩ := h
      simp only [Bool.and_eq_true] at hb
      have hw : waitsFor ops f e.on i = true := by
        have h2 := hb.2
        split at h2
        · cases h2
        · exact h2
      have hl := hall e he hb.1
      cases hk : ops[e.on]? with
      | none => cases f with
        | zero => cases hw
        | succ f => unfold waitsFor at hw; rw [hk] at hw; cases hw
      | some o' =>
        have hl' : listed.getD e.on true = true := by
          rcases Nat.lt_or_ge e.on listed.size with h' | h'
          · simp [h'] at hl ⊢; exact hl
          · simp [Array.getElem?_eq_none h'] at hl
        exact waits_listed hc f e.on o' hk (closed_spec hc hk hl') hw

/-- An operation whose value is known may be taken first. -/
theorem takeE {i : Nat} {oi : Oper} {v : Value} (hi : ops[i]? = some oi) (hsel : ∀ (j : Nat) (o : Oper) cs b, ops[j]? = some o → o.op ≠ .select cs b)
    (hQ : ∀ c a w, ¬ Q (.panic c) a w) (hki : kindAt ops i ≠ 3) (Inv : Array Bool → Prop)
    (hInv : ∀ listed j, Inv listed → i ∈ Region.ready .any ops listed → j ∈ Region.ready .any ops listed → j ≠ i → Inv (listed.setIfInBounds j true) ∧
      ∀ w', D w' → (still ops (listed.setIfInBounds j true) = true → C w') → E w') :
    ∀ (fuel : Nat) (listed : Array Bool) (a : Act) (w : World), Inv listed → E w → D w → (still ops listed = true → C w) →
      (∀ j oj, ops[j]? = some oj → j ≠ i → listed.getD j true = false → (∀ e ∈ oj.after, Region.binds .any e = true → e.on ≠ i) → oi.apart ops oj = true) →
      i ∈ Region.ready .any ops listed → YieldsE P ops E oi v a →
      wpAnyC P ops D C Q fuel (listed.setIfInBounds i true) (a.put oi.dst v) w → wpAnyC P ops D C Q (fuel + 1) listed a w := by
  intro fuel
  induction fuel with
  | zero =>
    intro listed a w hI hE hD hC _ hr hy H
    refine ⟨fun h => (by rw [h] at hr; cases hr), fun j hj => ?_⟩
    by_cases hji : j = i
    · subst hji; exact hy.wpOp hi hE ⟨hD, fun hs => hC (still_of hs), H⟩
    · have := ready_mono hj hji
      rw [H.1] at this
      cases this
  | succ fuel ih =>
    intro listed a w hI hE hD hC hfree hr hy H
    refine ⟨fun h => (by rw [h] at hr; cases hr), fun j hj => ?_⟩
    by_cases hji : j = i
    · subst hji; exact hy.wpOp hi hE ⟨hD, fun hs => hC (still_of hs), H⟩
    · have h1 := H.2 j (ready_mono hj hji)
      obtain ⟨hjun, oj, hoj, hall⟩ := mem_ready.1 hj
      have hnot : ∀ e ∈ oj.after, Region.binds .any e = true → e.on ≠ i := fun e he hb heq => by
        have h1 := hall e he hb
        have h0 := (mem_ready.1 hr).1
        rw [heq] at h1
        rcases Nat.lt_or_ge i listed.size with h' | h'
        · simp [h'] at h0 h1; rw [h0] at h1; cases h1
        · simp [Array.getElem?_eq_none h'] at h1
      have h2 := wpOp_putE hoj (hfree j oj hoj hji hjun hnot) (fun cs b => hsel i oi cs b hi) (fun cs b => hsel j oj cs b hoj) hQ hy h1
      have hfree' : ∀ k ok, ops[k]? = some ok → k ≠ i → (listed.setIfInBounds j true).getD k true = false →
          (∀ e ∈ ok.after, Region.binds .any e = true → e.on ≠ i) → oi.apart ops ok = true := fun k ok hk hki hun hno => by
        refine hfree k ok hk hki ?_ hno
        by_cases hjk : j = k
        · subst hjk; exact hjun
        · rw [getD_set_ne true hjk] at hun; exact hun
      obtain ⟨hI', hE'⟩ := hInv listed j hI hr hj hji
      refine wpOp_mono (fun a' w' h3 => ?_) h2
      obtain ⟨hy', hD', hC', hrest⟩ := h3
      have hCw : still ops (listed.setIfInBounds j true) = true → C w' := fun hs => by
        refine hC' ?_
        rw [Array.setIfInBounds_comm _ _ (Ne.symm hji)]
        exact still_set hki hs
      refine ⟨hD', hCw, ih (listed.setIfInBounds j true) a' w' hI' (hE' w' hD' hCw) hD' hCw hfree' (ready_mono hr (Ne.symm hji)) hy' ?_⟩
      rw [Array.setIfInBounds_comm _ _ hji]
      exact hrest
end
end Go.Proofs.Ytfcljepagnipaaa
