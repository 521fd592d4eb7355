/-
  Proved here (over an abstract state, so that a goroutine in company is served too): a region that draws its order, with operations of three sorts: those whose value hangs on no world, those that read memory, those that turn it; one walk, in an order that takes all values as early as may be, serves every order.
  Conditions: the closed check 'planOk' on the region.
-/
import Derived.WalkKit
import Derived.Orders
import Derived.Conc.CompanyDraw
import Derived.Still
namespace Go.Proofs.Ytnmhgfeglfcbgaa
open Go.RowKit

/-- 0: a value of its operands alone · 1: it reads memory, or what is known of it · 2: it makes memory, or calls · 3: it writes. -/
def kindOf : Op → Nat
  | .move _ | .assign _ | .pick .. | .extract .. | .unOp .. | .binOp .. | .fieldAddr .. | .build .. | .makeFunc .. | .nilCheck .. | .convert .. | .makeInterface .. => 0
  | .call { callee := .builtin .len, .. } | .call { callee := .builtin .cap, .. } | .call { callee := .builtin .max, .. } | .call { callee := .builtin .min, .. } => 0
  | .load .. | .indexAddr .. | .slice .. | .index .. | .field .. | .typeAssert .. => 1
  | .alloc _ | .box .. | .buildSlice .. | .makeSlice .. | .makeChan .. => 2
  | .call { callee := .value (.func 42), .. } => 3
  | .call { callee := .value _, .. } => 2
  | _ => 3

def kindAt (ops : Array Oper) (i : Nat) : Nat := ((ops[i]?).map (fun o => kindOf o.op)).getD 3
/-- No writer has come up yet. -/
def still (ops : Array Oper) (listed : Array Bool) : Bool := (List.range ops.size).all fun j => kindAt ops j != 3 || !listed.getD j true
/-- j waits for i, by itself or through others. -/
def waitsFor (ops : Array Oper) : Nat → Nat → Nat → Bool
  | 0, _, _ => false
  | f + 1, j, i => match ops[j]? with
    | some o => (o.after.any fun e => Region.binds .any e && e.on == i) || (o.after.any fun e => Region.binds .any e && (match e.ground with | .phase => false | _ => waitsFor ops f e.on i))
    | none => false
/-- Every writer that has not come up waits for i. -/
def waited (ops : Array Oper) (listed : Array Bool) (i : Nat) : Bool := (List.range ops.size).all fun j => kindAt ops j != 3 || listed.getD j true || waitsFor ops 8 j i
/-- Whatever has come up, has come up behind all that it waits for. -/
def closedB (ops : Array Oper) (listed : Array Bool) : Bool := (List.range ops.size).all fun j => !listed.getD j true || (match ops[j]? with
  | some o => o.after.all fun e => !Region.binds .any e || listed.getD e.on false
  | none => true)

/-- An order in which to walk a region; where several that turn memory may come next, each of them. -/
inductive Plan where
  | fin
  | op (i : Nat) (p : Plan)
  | opS (i : Nat) (p : Plan)
  | alt (p q : Plan)
def Plan.len : Plan → Nat
  | .fin => 0
  | .op _ p => p.len + 1
  | .opS _ p => p.len + 1
  | .alt p _ => p.len
def Plan.heads : Plan → List Nat
  | .fin => []
  | .op i _ => [i]
  | .opS _ _ => []
  | .alt p q => p.heads ++ q.heads
def Plan.ops : List Nat → Plan → Plan
  | [], p => p
  | i :: r, p => .op i (Plan.ops r p)
/-- These are read off the pieces that nothing in the region touches. -/
def Plan.opsS : List Nat → Plan → Plan
  | [], p => p
  | i :: r, p => .opS i (Plan.opsS r p)

def planOk (ops : Array Oper) : Bool → Plan → Array Bool → Bool
  | _, .fin, listed => (Region.ready .any ops listed).isEmpty
  | hd, .op i r, listed =>
    (match kindAt ops i with
      | 0 => !hd && ((Region.ready .any ops listed).contains i && Region.free .any ops listed i)
      | 1 => !hd && ((Region.ready .any ops listed).contains i && Region.free .any ops listed i && still ops listed && waited ops listed i && closedB ops listed)
      | _ => hd || (match Region.ready .any ops listed with | [j] => j == i | _ => false)) && planOk ops false r (listed.setIfInBounds i true)
  | hd, .opS i r, listed => !hd && (match kindAt ops i with | 0 => true | 1 => true | _ => false) && (Region.ready .any ops listed).contains i && Region.free .any ops listed i && planOk ops false r (listed.setIfInBounds i true)
  | hd, .alt p q, listed => (hd || (!(Region.ready .any ops listed).isEmpty && (Region.ready .any ops listed).all ((p.heads ++ q.heads).contains ·))) && p.len == q.len && planOk ops true p listed && planOk ops true q listed

section
variable {S : Type} {ops : Array Oper} {X : Sem Next → (Value → S → Prop) → S → Prop} {Q : Act → S → Prop} {D C : S → Prop}

/-- Operation number i, in a state. -/
def opS (ops : Array Oper) (X : Sem Next → (Value → S → Prop) → S → Prop) (i : Nat) (K : Act → S → Prop) (a : Act) (s : S) : Prop :=
  match ops[i]? with
  | none => False
  | some o => if Region.wanted o (yielded ops a.tmps) then X (execOp a.eval o) (fun v s' => K (a.put o.dst v) s') s else K (a.put o.dst undef) s

def MonoX (X : Sem Next → (Value → S → Prop) → S → Prop) : Prop := ∀ (p : Sem Next) (K K' : Value → S → Prop) (s : S), (∀ v s', K v s' → K' v s') → X p K s → X p K' s

theorem opS_mono (hX : MonoX X) {i : Nat} {a : Act} {s : S} {K K' : Act → S → Prop} (h : ∀ a s, K a s → K' a s) (hh : opS ops X i K a s) : opS ops X i K' a s := by
  unfold opS at *
  split
  · simp_all
  · rename_i o ho
    simp only [ho] at hh
    split
    · rename_i hw; simp only [hw, if_true] at hh; exact hX _ _ _ _ (fun v s' => h _ _) hh
    · rename_i hw; simp only [hw] at hh; exact h _ _ hh

def anyS (ops : Array Oper) (X : Sem Next → (Value → S → Prop) → S → Prop) (D C : S → Prop) (Q : Act → S → Prop) : Nat → Array Bool → Act → S → Prop
  | 0, listed, a, s => Region.ready .any ops listed = [] ∧ Q a s
  | fuel + 1, listed, a, s => (Region.ready .any ops listed = [] → Q a s) ∧
    ∀ i ∈ Region.ready .any ops listed, opS ops X i (fun a' s' => D s' ∧ (still ops (listed.setIfInBounds i true) = true → C s') ∧ anyS ops X D C Q fuel (listed.setIfInBounds i true) a' s') a s

theorem anyS_mono (hX : MonoX X) {C' : S → Prop} (hC : ∀ s, C s → C' s) : ∀ (fuel : Nat) (listed : Array Bool) (a : Act) (s : S), anyS ops X D C Q fuel listed a s → anyS ops X D C' Q fuel listed a s
  | 0, _, _, _, h => h
  | fuel + 1, _, _, _, h => ⟨h.1, fun i hi => opS_mono hX (fun a' s' h' => ⟨h'.1, fun hs => hC _ (h'.2.1 hs), anyS_mono hX hC fuel _ a' s' h'.2.2⟩) (h.2 i hi)⟩

theorem still_of {listed : Array Bool} {i : Nat} (h : still ops (listed.setIfInBounds i true) = true) : still ops listed = true := by
  unfold still at *
  rw [List.all_eq_true] at *
  intro j hj
  have h1 := h j hj
  by_cases e : i = j
  · subst e
    by_cases hs : i < listed.size
    · have : (listed.setIfInBounds i true).getD i true = true := by simp
      rw [this] at h1
      simp at h1 ⊢
      exact .inl h1
    · have : listed.setIfInBounds i true = listed := by rw [Array.setIfInBounds, dif_neg hs]
      rwa [this] at h1
  · rwa [getD_set_ne true e] at h1

theorem anyS_off (hX : MonoX X) {C' : S → Prop} : ∀ (fuel : Nat) (listed : Array Bool) (a : Act) (s : S), still ops listed = false → anyS ops X D C Q fuel listed a s → anyS ops X D C' Q fuel listed a s
  | 0, _, _, _, _, h => h
  | fuel + 1, listed, _, _, hs, h => ⟨h.1, fun i hi => opS_mono hX (fun a' s' h' => by
      have hs' : still ops (listed.setIfInBounds i true) = false := by
        rw [← Bool.not_eq_true]; intro hc; rw [still_of hc] at hs; cases hs
      exact ⟨h'.1, fun hc => (by rw [hs'] at hc; cases hc), anyS_off hX fuel _ a' s' hs' h'.2.2⟩) (h.2 i hi)⟩

/-- It serves every order that the tape can pick. -/
theorem anyS_sound (hX : MonoX X) (At : List Nat → Act → S → Prop) (hnil : ∀ a s, Q a s → At [] a s) (hcons : ∀ i rest a s, opS ops X i (At rest) a s → At (i :: rest) a s) :
    ∀ (fuel t : Nat) (listed : Array Bool) (a : Act) (s : S), anyS ops X D C Q fuel listed a s → At (Region.linearise.go .any ops fuel t listed []) a s := by
  intro fuel
  induction fuel with
  | zero => intro t listed a s h; simpa [Region.linearise.go] using hnil _ _ h.2
  | succ fuel ih =>
    intro t listed a s h
    obtain ⟨h₀, h₁⟩ := h
    simp only [Region.linearise.go]
    change At (match (Region.ready .any ops listed)[t % (Region.ready .any ops listed).length]? with
      | some i => Region.linearise.go .any ops fuel (t / (Region.ready .any ops listed).length) (listed.setIfInBounds i true) [i]
      | none => [].reverse) a s
    cases hi : (Region.ready .any ops listed)[t % (Region.ready .any ops listed).length]? with
    | none =>
      have hnil' : Region.ready .any ops listed = [] := by
        cases hr : Region.ready .any ops listed with
        | nil => rfl
        | cons x xs =>
          rw [hr] at hi
          have hlt : t % (x :: xs).length < (x :: xs).length := Nat.mod_lt _ (by simp)
          rw [List.getElem?_eq_none_iff] at hi
          omega
      simpa using hnil _ _ (h₀ hnil')
    | some i =>
      simp only []
      rw [linearise_go_acc, List.reverse_singleton, List.singleton_append]
      exact hcons _ _ _ _ (opS_mono hX (fun a' s' x => ih _ _ a' s' x.2.2) (h₁ i (List.mem_of_getElem? hi)))

/-- In state 'a', in every state of the class, operation 'o' leaves 'v' in its slot, and no more. -/
def YieldsE (ops : Array Oper) (X : Sem Next → (Value → S → Prop) → S → Prop) (E : S → Prop) (o : Oper) (v : Value) (a : Act) : Prop :=
  (Region.wanted o (yielded ops a.tmps) = true ∧ ∀ s, E s → ∀ K : Value → S → Prop, K v s → X (execOp a.eval o) K s) ∨
  (Region.wanted o (yielded ops a.tmps) = false ∧ v = undef)

variable {E : S → Prop}
theorem YieldsE.opS {i : Nat} {o : Oper} {v : Value} {a : Act} (hi : ops[i]? = some o) (hy : YieldsE ops X E o v a)
    {K : Act → S → Prop} {s : S} (hs : E s) (h : K (a.put o.dst v) s) : opS ops X i K a s := by
  unfold Proofs.Ytnmhgfeglfcbgaa.opS
  simp only [hi]
  rcases hy with ⟨hg, hv⟩ | ⟨hg, rfl⟩
  · simp only [hg, if_true]; exact hv s hs _ h
  · simp only [hg, Bool.false_eq_true, if_false]; exact h

theorem YieldsE.of_same {o : Oper} {v : Value} {a a' : Act} (hy : YieldsE ops X E o v a) (he : execOp a'.eval o = execOp a.eval o)
    (hw : Region.wanted o (yielded ops a'.tmps) = Region.wanted o (yielded ops a.tmps)) : YieldsE ops X E o v a' := by
  unfold YieldsE at *
  rw [he, hw]
  exact hy

theorem opS_putE (hX : MonoX X) {j : Nat} {oi oj : Oper} {v : Value} (hj : ops[j]? = some oj) (hap : oi.apart ops oj = true)
    (hsi : ∀ cs b, oi.op ≠ .select cs b) (hsj : ∀ cs b, oj.op ≠ .select cs b)
    {K : Act → S → Prop} {a : Act} {s : S}
    (hy : YieldsE ops X E oi v a) (h : opS ops X j K (a.put oi.dst v) s) :
    opS ops X j (fun a' s' => YieldsE ops X E oi v a' ∧ K (a'.put oi.dst v) s') a s := by
  obtain ⟨h1, h2, h3⟩ := Oper.apart_spec hap
  have keep : ∀ (a : Act), YieldsE ops X E oi v a → ∀ u, YieldsE ops X E oi v (a.put oj.dst u) := fun a hy u =>
    hy.of_same (execOp_put oi hsi a oj.dst u h3) (wanted_put oi a oj.dst u h3)
  unfold Proofs.Ytnmhgfeglfcbgaa.opS at *
  simp only [hj] at *
  rw [wanted_put oj a oi.dst v h1] at h
  split
  · rename_i hw
    simp only [hw, if_true] at h
    rw [execOp_put oj hsj a oi.dst v h1] at h
    exact hX _ _ _ _ (fun u s' hK => ⟨keep a hy u, by rw [← Act.put_comm a v u h2]; exact hK⟩) h
  · rename_i hw
    simp only [hw] at h
    exact ⟨keep a hy _, by rw [← Act.put_comm a v undef h2]; exact h⟩

theorem still_set {listed : Array Bool} {i : Nat} (hk : kindAt ops i ≠ 3) (h : still ops listed = true) : still ops (listed.setIfInBounds i true) = true := by
  unfold still at *
  rw [List.all_eq_true] at *
  intro j hj
  by_cases e : i = j
  · subst e; simp [hk]
  · rw [getD_set_ne true e]; exact h j hj

theorem closed_spec {listed : Array Bool} (h : closedB ops listed = true) {j : Nat} {o : Oper} (ho : ops[j]? = some o) (hj : listed.getD j true = true) :
    ∀ e ∈ o.after, Region.binds .any e = true → listed.getD e.on false = true := by
  unfold closedB at h
  rw [List.all_eq_true] at h
  have := h j (List.mem_range.2 (Array.getElem?_eq_some_iff.1 ho).1)
  rw [hj, ho] at this
  simp only [Bool.not_true, Bool.false_or] at this
  rw [Array.all_eq_true_iff_forall_mem] at this
  intro e he hb
  have := this e he
  rw [hb] at this
  simpa using this

theorem closed_set {listed : Array Bool} {i : Nat} (h : closedB ops listed = true) (hr : i ∈ Region.ready .any ops listed) : closedB ops (listed.setIfInBounds i true) = true := by
  have h0 := h
  unfold closedB
  rw [List.all_eq_true]
  intro j hj
  cases ho : ops[j]? with
  | none => simp
  | some o =>
    simp only [Bool.or_eq_true, Bool.not_eq_true']
    by_cases hij : i = j
    · subst hij
      right
      rw [Array.all_eq_true_iff_forall_mem]
      intro e he
      obtain ⟨_, o', ho', hall⟩ := mem_ready.1 hr
      rw [ho] at ho'; cases ho'
      cases hb : Region.binds .any e with
      | false => rfl
      | true => simpa using getD_set_true (hall e he hb)
    · rw [getD_set_ne true hij]
      cases hl : listed.getD j true with
      | false => exact .inl rfl
      | true =>
        right
        rw [Array.all_eq_true_iff_forall_mem]
        intro e he
        cases hb : Region.binds .any e with
        | false => rfl
        | true => simpa using getD_set_true (closed_spec h0 ho hl e he hb)

theorem waits_listed {listed : Array Bool} (hc : closedB ops listed = true) {i : Nat} : ∀ (f j : Nat) (o : Oper), ops[j]? = some o → (∀ e ∈ o.after, Region.binds .any e = true → listed.getD e.on false = true) →
    waitsFor ops f j i = true → listed.getD i false = true
  | 0, _, _, _, _, h => by cases h
  | f + 1, j, o, ho, hall, h => by
    unfold waitsFor at h
    rw [ho] at h
    simp only [Bool.or_eq_true] at h
    rcases h with h | h
    · rw [Array.any_eq_true'] at h
      obtain ⟨e, he, hb⟩ := h
      simp only [Bool.and_eq_true, beq_iff_eq] at hb
      rw [← hb.2]
      exact hall e he hb.1
    · rw [Array.any_eq_true'] at h
      obtain ⟨e, he, hb⟩ := h
      simp only [Bool.and_eq_true] at hb
      have hw : waitsFor ops f e.on i = true := by
        have h2 := hb.2
        split at h2
        · cases h2
        · exact h2
      have hl := hall e he hb.1
      cases hk : ops[e.on]? with
      | none => cases f with
        | zero => cases hw
        | succ f => unfold waitsFor at hw; rw [hk] at hw; cases hw
      | some o' =>
        have hl' : listed.getD e.on true = true := by
          rcases Nat.lt_or_ge e.on listed.size with h' | h'
          · simp [h'] at hl ⊢; exact hl
          · simp [Array.getElem?_eq_none h'] at hl
        exact waits_listed hc f e.on o' hk (closed_spec hc hk hl') hw

/-- An operation whose value is known may be taken first. -/
theorem takeE (hX : MonoX X) {i : Nat} {oi : Oper} {v : Value} (hi : ops[i]? = some oi) (hsel : ∀ (j : Nat) (o : Oper) cs b, ops[j]? = some o → o.op ≠ .select cs b)
    (hki : kindAt ops i ≠ 3) (Inv : Array Bool → Prop)
    (hInv : ∀ listed j, Inv listed → i ∈ Region.ready .any ops listed → j ∈ Region.ready .any ops listed → j ≠ i → Inv (listed.setIfInBounds j true) ∧
      ∀ w', D w' → (still ops (listed.setIfInBounds j true) = true → C w') → E w') :
    ∀ (fuel : Nat) (listed : Array Bool) (a : Act) (w : S), Inv listed → E w → D w → (still ops listed = true → C w) →
      (∀ j oj, ops[j]? = some oj → j ≠ i → listed.getD j true = false → (∀ e ∈ oj.after, Region.binds .any e = true → e.on ≠ i) → oi.apart ops oj = true) →
      i ∈ Region.ready .any ops listed → YieldsE ops X E oi v a →
      anyS ops X D C Q fuel (listed.setIfInBounds i true) (a.put oi.dst v) w → anyS ops X D C Q (fuel + 1) listed a w := by
  intro fuel
  induction fuel with
  | zero =>
    intro listed a w hI hE hD hC _ hr hy H
    refine ⟨fun h => (by rw [h] at hr; cases hr), fun j hj => ?_⟩
    by_cases hji : j = i
    · subst hji; exact hy.opS hi hE ⟨hD, fun hs => hC (still_of hs), H⟩
    · have := ready_mono hj hji
      rw [H.1] at this
      cases this
  | succ fuel ih =>
    intro listed a w hI hE hD hC hfree hr hy H
    refine ⟨fun h => (by rw [h] at hr; cases hr), fun j hj => ?_⟩
    by_cases hji : j = i
    · subst hji; exact hy.opS hi hE ⟨hD, fun hs => hC (still_of hs), H⟩
    · have h1 := H.2 j (ready_mono hj hji)
      obtain ⟨hjun, oj, hoj, hall⟩ := mem_ready.1 hj
      have hnot : ∀ e ∈ oj.after, Region.binds .any e = true → e.on ≠ i := fun e he hb heq => by
        have h1 := hall e he hb
        have h0 := (mem_ready.1 hr).1
        rw [heq] at h1
        rcases Nat.lt_or_ge i listed.size with h' | h'
        · simp [h'] at h0 h1; rw [h0] at h1; cases h1
        · simp [Array.getElem?_eq_none h'] at h1
      have h2 := opS_putE hX hoj (hfree j oj hoj hji hjun hnot) (fun cs b => hsel i oi cs b hi) (fun cs b => hsel j oj cs b hoj) hy h1
      have hfree' : ∀ k ok, ops[k]? = some ok → k ≠ i → (listed.setIfInBounds j true).getD k true = false →
          (∀ e ∈ ok.after, Region.binds .any e = true → e.on ≠ i) → oi.apart ops ok = true := fun k ok hk hki hun hno => by
        refine hfree k ok hk hki ?_ hno
        by_cases hjk : j = k
        · subst hjk; exact hjun
        · rw [getD_set_ne true hjk] at hun; exact hun
      obtain ⟨hI', hE'⟩ := hInv listed j hI hr hj hji
      refine opS_mono hX (fun a' w' h3 => ?_) h2
      obtain ⟨hy', hD', hC', hrest⟩ := h3
      have hCw : still ops (listed.setIfInBounds j true) = true → C w' := fun hs => by
        refine hC' ?_
        rw [Array.setIfInBounds_comm _ _ (Ne.symm hji)]
        exact still_set hki hs
      refine ⟨hD', hCw, ih (listed.setIfInBounds j true) a' w' hI' (hE' w' hD' hCw) hD' hCw hfree' (ready_mono hr (Ne.symm hji)) hy' ?_⟩
      rw [Array.setIfInBounds_comm _ _ hji]
      exact hrest
end

/-! ### Regions all of whose operations yield one value, whatever the order -/
section
variable {ops : Array Oper} {Y : Sem Next → Value → Prop} {Q : Act → Prop}
def yieldsQ (ops : Array Oper) (Y : Sem Next → Value → Prop) (o : Oper) (v : Value) (a : Act) : Prop :=
  (Region.wanted o (yielded ops a.tmps) = true ∧ Y (execOp a.eval o) v) ∨ (Region.wanted o (yielded ops a.tmps) = false ∧ v = undef)
def walkQ (ops : Array Oper) (Y : Sem Next → Value → Prop) (Q : Act → Prop) : List Oper → Act → Prop
  | [], a => Q a
  | o :: rest, a => ∃ v, yieldsQ ops Y o v a ∧ walkQ ops Y Q rest (a.put o.dst v)
def anyQ (ops : Array Oper) (Y : Sem Next → Value → Prop) (Q : Act → Prop) : Nat → Array Bool → Act → Prop
  | 0, listed, a => Region.ready .any ops listed = [] ∧ Q a
  | fuel + 1, listed, a => (Region.ready .any ops listed = [] → Q a) ∧
    ∀ i ∈ Region.ready .any ops listed, ∃ o v, ops[i]? = some o ∧ yieldsQ ops Y o v a ∧ anyQ ops Y Q fuel (listed.setIfInBounds i true) (a.put o.dst v)

theorem yieldsQ_put {oi oj : Oper} {v u : Value} {a : Act} (hap : oi.apart ops oj = true) (hsi : ∀ cs b, oi.op ≠ .select cs b) (hsj : ∀ cs b, oj.op ≠ .select cs b)
    (hy : yieldsQ ops Y oi v a) (h : yieldsQ ops Y oj u (a.put oi.dst v)) : yieldsQ ops Y oj u a ∧ yieldsQ ops Y oi v (a.put oj.dst u) ∧ (a.put oi.dst v).put oj.dst u = (a.put oj.dst u).put oi.dst v := by
  obtain ⟨h1, h2, h3⟩ := Oper.apart_spec hap
  refine ⟨?_, ?_, Act.put_comm a v u h2⟩
  · unfold yieldsQ at *
    rwa [wanted_put oj a oi.dst v h1, execOp_put oj hsj a oi.dst v h1] at h
  · unfold yieldsQ at *
    rwa [wanted_put oi a oj.dst u h3, execOp_put oi hsi a oj.dst u h3]

theorem anyQ_first {i : Nat} {oi : Oper} {v : Value} (hi : ops[i]? = some oi) (hsel : ∀ (j : Nat) (o : Oper) cs b, ops[j]? = some o → o.op ≠ .select cs b) :
    ∀ (fuel : Nat) (listed : Array Bool) (a : Act),
      (∀ j oj, ops[j]? = some oj → j ≠ i → listed.getD j true = false → (∀ e ∈ oj.after, Region.binds .any e = true → e.on ≠ i) → oi.apart ops oj = true) →
      i ∈ Region.ready .any ops listed → yieldsQ ops Y oi v a →
      anyQ ops Y Q fuel (listed.setIfInBounds i true) (a.put oi.dst v) → anyQ ops Y Q (fuel + 1) listed a := by
  intro fuel
  induction fuel with
  | zero =>
    intro listed a _ hr hy H
    refine ⟨fun h => (by rw [h] at hr; cases hr), fun j hj => ?_⟩
    by_cases hji : j = i
    · subst hji; exact ⟨oi, v, hi, hy, H⟩
    · have := ready_mono hj hji
      rw [H.1] at this
      cases this
  | succ fuel ih =>
    intro listed a hfree hr hy H
    refine ⟨fun h => (by rw [h] at hr; cases hr), fun j hj => ?_⟩
    by_cases hji : j = i
    · subst hji; exact ⟨oi, v, hi, hy, H⟩
    · obtain ⟨oj', u, hoj', hyj, hrest⟩ := H.2 j (ready_mono hj hji)
      obtain ⟨hjun, oj, hoj, hall⟩ := mem_ready.1 hj
      obtain rfl : oj = oj' := by rw [hoj] at hoj'; exact Option.some.inj hoj'
      have hnot : ∀ e ∈ oj.after, Region.binds .any e = true → e.on ≠ i := fun e he hb heq => by
        have h1 := hall e he hb
        have h0 := (mem_ready.1 hr).1
        rw [heq] at h1
        rcases Nat.lt_or_ge i listed.size with h' | h'
        · simp [h'] at h0 h1; rw [h0] at h1; cases h1
        · simp [Array.getElem?_eq_none h'] at h1
      obtain ⟨g1, g2, g3⟩ := yieldsQ_put (hfree j oj hoj hji hjun hnot) (fun cs b => hsel i oi cs b hi) (fun cs b => hsel j oj cs b hoj) hy hyj
      have hfree' : ∀ k ok, ops[k]? = some ok → k ≠ i → (listed.setIfInBounds j true).getD k true = false →
          (∀ e ∈ ok.after, Region.binds .any e = true → e.on ≠ i) → oi.apart ops ok = true := fun k ok hk hki hun hno => by
        refine hfree k ok hk hki ?_ hno
        by_cases hjk : j = k
        · subst hjk; exact hjun
        · rw [getD_set_ne true hjk] at hun; exact hun
      refine ⟨oj, u, hoj, g1, ih (listed.setIfInBounds j true) _ hfree' (ready_mono hr (Ne.symm hji)) g2 ?_⟩
      rw [Array.setIfInBounds_comm _ _ hji, ← g3]
      exact hrest

theorem anyQ_lex (hs : Region.noSelect ops = true) : ∀ (l : List Oper) (k : Nat) (listed : Array Bool) (a : Act), (∀ j, l[j]? = ops[k + j]?) →
    Region.lexFrom .any ops l.length k listed = true → walkQ ops Y Q l a → anyQ ops Y Q l.length listed a
  | [], _, _, _, _, hB, h => ⟨by simpa [Region.lexFrom] using hB, h⟩
  | o :: l, k, listed, a, hl, hB, h => by
    have h0 : ops[k]? = some o := by simpa using (hl 0).symm
    simp only [List.length_cons, Region.lexFrom, Bool.and_eq_true] at hB
    obtain ⟨⟨hr, hf⟩, hB'⟩ := hB
    obtain ⟨v, hy, hK⟩ := h
    exact anyQ_first h0 (Region.noSelect_spec hs) l.length listed a (Region.free_spec h0 hf) (by simpa using hr) hy
      (anyQ_lex hs l (k + 1) _ _ (fun j => by have := hl (j + 1); simpa [Nat.add_assoc, Nat.add_comm 1 j] using this) hB' hK)
theorem anyQ_sound (At : List Nat → Act → Prop) (hnil : ∀ a, Q a → At [] a) (hcons : ∀ i rest o v a, ops[i]? = some o → yieldsQ ops Y o v a → At rest (a.put o.dst v) → At (i :: rest) a) :
    ∀ (fuel t : Nat) (listed : Array Bool) (a : Act), anyQ ops Y Q fuel listed a → At (Region.linearise.go .any ops fuel t listed []) a := by
  intro fuel
  induction fuel with
  | zero => intro t listed a h; simpa [Region.linearise.go] using hnil _ h.2
  | succ fuel ih =>
    intro t listed a h
    obtain ⟨h₀, h₁⟩ := h
    simp only [Region.linearise.go]
    change At (match (Region.ready .any ops listed)[t % (Region.ready .any ops listed).length]? with
      | some i => Region.linearise.go .any ops fuel (t / (Region.ready .any ops listed).length) (listed.setIfInBounds i true) [i]
      | none => [].reverse) a
    cases hi : (Region.ready .any ops listed)[t % (Region.ready .any ops listed).length]? with
    | none =>
      have hnil' : Region.ready .any ops listed = [] := by
        cases hr : Region.ready .any ops listed with
        | nil => rfl
        | cons x xs =>
          rw [hr] at hi
          have hlt : t % (x :: xs).length < (x :: xs).length := Nat.mod_lt _ (by simp)
          rw [List.getElem?_eq_none_iff] at hi
          omega
      simpa using hnil _ (h₀ hnil')
    | some i =>
      simp only []
      rw [linearise_go_acc, List.reverse_singleton, List.singleton_append]
      obtain ⟨o, v, h1, h2, h3⟩ := h₁ i (List.mem_of_getElem? hi)
      exact hcons _ _ _ _ _ h1 h2 (ih _ _ _ h3)
end
end Go.Proofs.Ytnmhgfeglfcbgaa
