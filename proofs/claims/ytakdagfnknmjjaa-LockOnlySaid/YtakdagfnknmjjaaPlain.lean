/-
  Proved here: plain laws of tables of locks, with no program in sight: what a step makes of a table, and what stands in every table that steps make.
-/
namespace Go.Proofs.Ytakdagfnknmjjaa

/-- A lock, and a thread. -/
abbrev Ho := Int × Int
/-- What is held, and who waits. -/
abbrev Tb := List Ho × List Ho

def holderM (h : List Ho) (lk : Int) : Option Ho := h.find? (fun y => y.1 == lk)
def waitsM (w : List Ho) (th : Int) : Option Ho := w.find? (fun y => y.2 == th)
def askM (t : Tb) (th lk : Int) : Tb × Bool :=
  match holderM t.1 lk with
  | none => ((t.1 ++ [(lk, th)], t.2), true)
  | some y => if y.2 = th then (t, true) else if (lk, th) ∈ t.2 then (t, false) else ((t.1, t.2 ++ [(lk, th)]), false)
def freeM (t : Tb) (th lk : Int) : Tb × Option Int :=
  if (lk, th) ∈ t.1 then
    match holderM t.2 lk with
    | none => ((t.1.erase (lk, th), t.2), none)
    | some x => ((t.1.erase (lk, th) ++ [x], t.2.eraseP (fun y => y.1 == lk)), some x.2)
  else (t, none)
def without (l : List Ho) (x : Ho) : List Ho := l.filter (fun y => !decide (y = x))
def refFreeM (t : Tb) (th lk : Int) : Tb × Option Int :=
  if (lk, th) ∈ t.1 then
    match holderM t.2 lk with
    | none => ((without t.1 (lk, th), t.2), none)
    | some x => ((without t.1 (lk, th) ++ [x], without t.2 x), some x.2)
  else (t, none)
def passM (got : List Ho) (lk : Int) (n : Option Int) : List Ho := match n with
  | some n => got ++ [(lk, n)]
  | none => got
def dropS (th : Int) (s : Tb × List Ho) (y : Ho) : Tb × List Ho := if y.2 = th then ((freeM s.1 th y.1).1, passM s.2 y.1 (freeM s.1 th y.1).2) else s
def refDropS (th : Int) (s : Tb × List Ho) (y : Ho) : Tb × List Ho := if y.2 = th then ((refFreeM s.1 th y.1).1, passM s.2 y.1 (refFreeM s.1 th y.1).2) else s
def outM (w : List Ho) (th : Int) : List Ho := w.filter (fun y => !(y.2 == th))
def dropM (t : Tb) (th : Int) : Tb × List Ho := t.1.foldl (dropS th) ((t.1, outM t.2 th), [])
def refDropM (t : Tb) (th : Int) : Tb × List Ho := t.1.foldl (refDropS th) ((t.1, outM t.2 th), [])

/-- What is done: its kind, the thread, the lock. -/
abbrev Sp := Int × Int × Int
def doM (t : Tb) (s : Sp) : Tb := if s.1 = 1 then (askM t s.2.1 s.2.2).1 else if s.1 = 2 then (freeM t s.2.1 s.2.2).1 else if s.1 = 3 then (dropM t s.2.1).1 else t
def behindM (l : List Sp) : Tb := l.foldl doM ([], [])

/-- What stands in every table. -/
structure Inv (t : Tb) : Prop where
  one : t.1.Pairwise (fun a b => a.1 ≠ b.1)
  nd : t.2.Pairwise (fun a b => a ≠ b)
  held : ∀ x ∈ t.2, ∃ y ∈ t.1, y.1 = x.1 ∧ y.2 ≠ x.2

theorem holderM_some {h : List Ho} {lk : Int} {y : Ho} (e : holderM h lk = some y) : y ∈ h ∧ y.1 = lk :=
  ⟨List.mem_of_find?_eq_some e, by simpa using List.find?_some e⟩
theorem holderM_none {h : List Ho} {lk : Int} (e : holderM h lk = none) : ∀ y ∈ h, y.1 ≠ lk := by
  intro y hy
  have := List.find?_eq_none.1 e y hy
  simpa using this
theorem holderM_of {h : List Ho} (ho : h.Pairwise (fun a b => a.1 ≠ b.1)) {y : Ho} (hy : y ∈ h) : holderM h y.1 = some y := by
  induction h with
  | nil => cases hy
  | cons a r ih =>
    have hp := List.pairwise_cons.1 ho
    unfold holderM at *
    rw [List.find?_cons]
    rcases List.mem_cons.1 hy with rfl | hy
    · simp
    · have : (a.1 == y.1) = false := by simpa using hp.1 y hy
      rw [this]
      exact ih hp.2 hy
theorem holderM_out {h : List Ho} {lk : Int} (hn : ∀ y ∈ h, y.1 ≠ lk) : holderM h lk = none := by
  unfold holderM
  rw [List.find?_eq_none]
  intro y hy
  simpa using hn y hy
theorem one_eq {h : List Ho} (ho : h.Pairwise (fun a b => a.1 ≠ b.1)) {y z : Ho} (hy : y ∈ h) (hz : z ∈ h) (e : y.1 = z.1) : y = z := by
  have h1 := holderM_of ho hy
  have h2 := holderM_of ho hz
  rw [e, h2] at h1
  exact (Option.some.inj h1).symm
theorem nd_of_one {h : List Ho} (ho : h.Pairwise (fun a b => a.1 ≠ b.1)) : h.Pairwise (fun a b => a ≠ b) := ho.imp (fun h e => h (by rw [e]))

theorem mem_without {l : List Ho} {x y : Ho} : y ∈ without l x ↔ y ∈ l ∧ y ≠ x := by unfold without; simp
theorem without_out {l : List Ho} {x : Ho} (h : x ∉ l) : without l x = l := by
  unfold without
  rw [List.filter_eq_self]
  intro y hy
  have : y ≠ x := fun e => h (e ▸ hy)
  simp [this]
theorem erase_without {l : List Ho} (hl : l.Pairwise (fun a b => a ≠ b)) (x : Ho) : l.erase x = without l x := by
  induction l with
  | nil => rfl
  | cons a r ih =>
    have hp := List.pairwise_cons.1 hl
    by_cases e : a = x
    · subst e
      have hr : a ∉ r := fun h => hp.1 a h rfl
      rw [List.erase_cons_head]
      have h2 : without (a :: r) a = without r a := by unfold without; rw [List.filter_cons]; simp
      rw [h2, without_out hr]
    · have h1 : (a == x) = false := by simpa using e
      rw [List.erase_cons_tail (by simpa using e), ih hp.2]
      unfold without
      rw [List.filter_cons]
      simp [e]
theorem eraseP_without {l : List Ho} (hl : l.Pairwise (fun a b => a ≠ b)) {lk : Int} {x : Ho} (hx : holderM l lk = some x) : l.eraseP (fun y => y.1 == lk) = without l x := by
  induction l with
  | nil => rfl
  | cons a r ih =>
    have hp := List.pairwise_cons.1 hl
    unfold holderM at hx
    rw [List.find?_cons] at hx
    by_cases e : (a.1 == lk) = true
    · rw [e] at hx
      simp only [Option.some.injEq] at hx
      subst hx
      have hr : a ∉ r := fun h => hp.1 a h rfl
      have h2 : without (a :: r) a = without r a := by unfold without; rw [List.filter_cons]; simp
      rw [List.eraseP_cons_of_pos (p := fun (y : Ho) => y.1 == lk) e, h2, without_out hr]
    · have e' : (a.1 == lk) = false := by simpa using e
      rw [e'] at hx
      have hx1 := holderM_some (h := r) (lk := lk) hx
      have hne : a ≠ x := by
        rintro rfl
        rw [hx1.2] at e'
        simp at e'
      rw [List.eraseP_cons_of_neg (p := fun (y : Ho) => y.1 == lk) (by simpa using e), ih hp.2 hx]
      unfold without
      rw [List.filter_cons]
      simp [hne]
theorem free_ref {t : Tb} (hi : Inv t) (th lk : Int) : freeM t th lk = refFreeM t th lk := by
  unfold freeM refFreeM
  split
  · cases h : holderM t.2 lk with
    | none => rw [erase_without (nd_of_one hi.one)]
    | some x => simp only; rw [erase_without (nd_of_one hi.one), eraseP_without hi.nd h]
  · rfl

theorem inv_nil : Inv ([], []) := ⟨List.Pairwise.nil, List.Pairwise.nil, by simp⟩
theorem inv_ask {t : Tb} (hi : Inv t) (th lk : Int) : Inv (askM t th lk).1 := by
  unfold askM
  cases h : holderM t.1 lk with
  | none =>
    have hn := holderM_none h
    refine ⟨List.pairwise_append.2 ⟨hi.one, by simp, fun a ha b hb => ?_⟩, hi.nd, fun x hx => ?_⟩
    · simp at hb; subst hb; exact hn a ha
    · obtain ⟨y, hy, h1⟩ := hi.held x hx
      exact ⟨y, List.mem_append_left _ hy, h1⟩
  | some y =>
    have hs := holderM_some h
    simp only
    split
    · exact hi
    · rename_i hne
      split
      · exact hi
      · rename_i hnm
        refine ⟨hi.one, List.pairwise_append.2 ⟨hi.nd, by simp, fun a ha b hb => ?_⟩, fun x hx => ?_⟩
        · simp at hb; subst hb; rintro rfl; exact hnm ha
        · rcases List.mem_append.1 hx with hx | hx
          · exact hi.held x hx
          · simp at hx; subst hx
            exact ⟨y, hs.1, hs.2, hne⟩
theorem inv_free {t : Tb} (hi : Inv t) (th lk : Int) : Inv (freeM t th lk).1 := by
  rw [free_ref hi]
  unfold refFreeM
  split
  · rename_i hm
    have h1 : (without t.1 (lk, th)).Pairwise (fun a b => a.1 ≠ b.1) := by unfold without; exact hi.one.filter _
    have hlk : ∀ y ∈ without t.1 (lk, th), y.1 ≠ lk := fun y hy e => by
      have hy := mem_without.1 hy
      exact hy.2 (one_eq hi.one hy.1 hm e)
    cases h : holderM t.2 lk with
    | none =>
      have hn := holderM_none h
      refine ⟨h1, hi.nd, fun x hx => ?_⟩
      obtain ⟨y, hy, h2, h3⟩ := hi.held x hx
      refine ⟨y, mem_without.2 ⟨hy, ?_⟩, h2, h3⟩
      rintro rfl
      exact hn x hx h2.symm
    | some x =>
      have hs := holderM_some h
      refine ⟨List.pairwise_append.2 ⟨h1, by simp, fun a ha b hb => ?_⟩, ?_, fun z hz => ?_⟩
      · simp at hb; subst hb; rw [hs.2]; exact hlk a ha
      · unfold without; exact hi.nd.filter _
      · have hz := mem_without.1 hz
        obtain ⟨y, hy, h2, h3⟩ := hi.held z hz.1
        by_cases e : z.1 = lk
        · refine ⟨x, by simp, by rw [hs.2, e], fun h4 => hz.2 ?_⟩
          exact Prod.ext (by rw [e, hs.2]) h4.symm
        · refine ⟨y, List.mem_append_left _ (mem_without.2 ⟨hy, ?_⟩), h2, h3⟩
          rintro rfl
          exact e h2.symm
  · exact hi
theorem inv_out {t : Tb} (hi : Inv t) (th : Int) : Inv (t.1, outM t.2 th) :=
  ⟨hi.one, by unfold outM; exact hi.nd.filter _, fun x hx => hi.held x (by unfold outM at hx; exact (List.mem_filter.1 hx).1)⟩
theorem inv_fold (th : Int) : ∀ (ls : List Ho) (s : Tb × List Ho), Inv s.1 → Inv (ls.foldl (dropS th) s).1
  | [], _, h => h
  | y :: r, s, h => by
    rw [List.foldl_cons]
    apply inv_fold th r
    unfold dropS
    split
    · exact inv_free h _ _
    · exact h
theorem inv_drop {t : Tb} (hi : Inv t) (th : Int) : Inv (dropM t th).1 := inv_fold th _ _ (inv_out hi th)
theorem fold_ref (th : Int) : ∀ (ls : List Ho) (s : Tb × List Ho), Inv s.1 → ls.foldl (dropS th) s = ls.foldl (refDropS th) s
  | [], _, _ => rfl
  | y :: r, s, h => by
    rw [List.foldl_cons, List.foldl_cons]
    have e : dropS th s y = refDropS th s y := by unfold dropS refDropS; rw [free_ref h]
    have hi : Inv (dropS th s y).1 := by
      unfold dropS
      split
      · exact inv_free h _ _
      · exact h
    rw [← e, fold_ref th r _ hi]
theorem drop_ref {t : Tb} (hi : Inv t) (th : Int) : dropM t th = refDropM t th := fold_ref th _ _ (inv_out hi th)
theorem inv_do {t : Tb} (hi : Inv t) (s : Sp) : Inv (doM t s) := by
  unfold doM
  split
  · exact inv_ask hi _ _
  · split
    · exact inv_free hi _ _
    · split
      · exact inv_drop hi _
      · exact hi

/-! ### Sizes -/
def szM (t : Tb) : Nat := t.1.length + t.2.length
theorem sz_ask (t : Tb) (th lk : Int) : szM (askM t th lk).1 ≤ szM t + 1 := by
  unfold askM szM
  split
  · simp; omega
  · split
    · simp
    · split
      · simp
      · simp; omega
theorem len_free (t : Tb) (th lk : Int) : (freeM t th lk).1.1.length ≤ t.1.length ∧ (freeM t th lk).1.2.length ≤ t.2.length := by
  unfold freeM
  split
  · rename_i hm
    have h1 := List.length_erase_of_mem hm
    have h2 : 0 < t.1.length := List.length_pos_of_mem hm
    split
    · simp only; omega
    · simp only [List.length_append, List.length_cons, List.length_nil]
      have := List.length_eraseP_le (l := t.2) (p := fun (y : Ho) => y.1 == lk)
      omega
  · simp
theorem len_fold (th : Int) : ∀ (ls : List Ho) (s : Tb × List Ho), (ls.foldl (dropS th) s).1.1.length ≤ s.1.1.length ∧ (ls.foldl (dropS th) s).1.2.length ≤ s.1.2.length ∧ (ls.foldl (dropS th) s).2.length ≤ s.2.length + ls.length
  | [], s => by simp
  | y :: r, s => by
    rw [List.foldl_cons]
    have ih := len_fold th r (dropS th s y)
    have h : (dropS th s y).1.1.length ≤ s.1.1.length ∧ (dropS th s y).1.2.length ≤ s.1.2.length ∧ (dropS th s y).2.length ≤ s.2.length + 1 := by
      unfold dropS
      split
      · have := len_free s.1 th y.1
        refine ⟨this.1, this.2, ?_⟩
        unfold passM
        split <;> simp
      · simp
    simp only [List.length_cons]
    omega
theorem len_out (w : List Ho) (th : Int) : (outM w th).length ≤ w.length := List.length_filter_le _ _
theorem len_drop (t : Tb) (th : Int) : (dropM t th).1.1.length ≤ t.1.length ∧ (dropM t th).1.2.length ≤ t.2.length ∧ (dropM t th).2.length ≤ t.1.length := by
  have := len_fold th t.1 ((t.1, outM t.2 th), [])
  have h2 := len_out t.2 th
  unfold dropM
  simp only [List.length_nil] at this
  omega
theorem sz_do (t : Tb) (s : Sp) : szM (doM t s) ≤ szM t + 1 := by
  unfold doM
  split
  · exact sz_ask _ _ _
  · split
    · have := len_free t s.2.1 s.2.2; unfold szM; omega
    · split
      · have := len_drop t s.2.1; unfold szM; omega
      · omega
theorem behind_succ {l : List Sp} {k : Nat} {s : Sp} (h : l[k]? = some s) : behindM (l.take (k + 1)) = doM (behindM (l.take k)) s := by
  unfold behindM; rw [List.take_add_one, h, List.foldl_append]; rfl
theorem behind_sz (l : List Sp) : szM (behindM l) ≤ l.length := by
  unfold behindM
  suffices h : ∀ (l : List Sp) (t : Tb), szM (l.foldl doM t) ≤ szM t + l.length by
    have := h l ([], []); simpa [szM] using this
  intro l
  induction l with
  | nil => intro t; simp
  | cons s r ih => intro t; rw [List.foldl_cons]; have := ih (doM t s); have := sz_do t s; simp only [List.length_cons]; omega
theorem behind_inv (l : List Sp) : Inv (behindM l) := by
  unfold behindM
  suffices h : ∀ (l : List Sp) (t : Tb), Inv t → Inv (l.foldl doM t) from h l _ inv_nil
  intro l
  induction l with
  | nil => intro t h; exact h
  | cons s r ih => intro t h; rw [List.foldl_cons]; exact ih _ (inv_do h s)

/-! ### Who holds what behind a drop -/
theorem holder_append (h : List Ho) (x : Ho) (k : Int) : holderM (h ++ [x]) k = (holderM h k).or (if x.1 = k then some x else none) := by
  unfold holderM
  rw [List.find?_append]
  congr 1
  by_cases e : x.1 = k <;> simp [e]
theorem holder_without {h : List Ho} {y : Ho} {k : Int} (hk : k ≠ y.1) : holderM (without h y) k = holderM h k := by
  unfold holderM without
  induction h with
  | nil => rfl
  | cons a r ih =>
    rw [List.filter_cons, List.find?_cons]
    by_cases e : a = y
    · have : (a.1 == k) = false := by subst e; simpa using hk.symm
      simp only [e, decide_true, Bool.not_true, Bool.false_eq_true, if_false]
      rw [← e, this]
      rw [e]; exact ih
    · simp only [e, decide_false, Bool.not_false, if_true]
      rw [List.find?_cons, ih]
theorem holder_filter {w : List Ho} {p : Ho → Bool} {k : Int} (h : ∀ x ∈ w, x.1 = k → p x = true) : holderM (w.filter p) k = holderM w k := by
  unfold holderM
  induction w with
  | nil => rfl
  | cons a r ih =>
    have ih := ih (fun x hx => h x (List.mem_cons_of_mem _ hx))
    rw [List.filter_cons, List.find?_cons]
    by_cases e : a.1 = k
    · rw [if_pos (h a (List.mem_cons_self ..) e), List.find?_cons]
      simp [e]
    · have e' : (a.1 == k) = false := by simpa using e
      rw [e']
      split
      · rw [List.find?_cons, e']; exact ih
      · exact ih
theorem free_holder {t : Tb} (hi : Inv t) {y : Ho} (hy : y ∈ t.1) (k : Int) : holderM (freeM t y.2 y.1).1.1 k = if k = y.1 then holderM t.2 k else holderM t.1 k := by
  rw [free_ref hi]
  unfold refFreeM
  rw [if_pos (show (y.1, y.2) ∈ t.1 from hy)]
  have hout : holderM (without t.1 (y.1, y.2)) y.1 = none := holderM_out fun z hz e => by
    have hz := mem_without.1 hz
    exact hz.2 (one_eq hi.one hz.1 hy e)
  cases h : holderM t.2 y.1 with
  | none =>
    simp only
    by_cases e : k = y.1
    · subst e; rw [if_pos rfl, hout, h]
    · rw [if_neg e, holder_without e]
  | some x =>
    have hs := holderM_some h
    simp only
    rw [holder_append]
    by_cases e : k = y.1
    · subst e; rw [if_pos rfl, hout, h, if_pos hs.2]; rfl
    · rw [if_neg e, holder_without (y := (y.1, y.2)) e, if_neg (by rw [hs.2]; exact fun h => e h.symm), Option.or_none]
theorem free_waiter {t : Tb} (hi : Inv t) (th lk k : Int) (hk : k ≠ lk) : holderM (freeM t th lk).1.2 k = holderM t.2 k := by
  rw [free_ref hi]
  unfold refFreeM
  split
  · cases h : holderM t.2 lk with
    | none => rfl
    | some x =>
      have hs := holderM_some h
      exact holder_without (by rw [hs.2]; exact hk)
  · rfl
theorem free_sub (t : Tb) (th lk : Int) : ∀ z ∈ (freeM t th lk).1.2, z ∈ t.2 := by
  intro z hz
  unfold freeM at hz
  split at hz
  · split at hz
    · exact hz
    · exact List.mem_of_mem_eraseP hz
  · exact hz
theorem fold_sub (th : Int) : ∀ (ls : List Ho) (s : Tb × List Ho), ∀ z ∈ (ls.foldl (dropS th) s).1.2, z ∈ s.1.2
  | [], _, _, h => h
  | y :: r, s, z, h => by
    rw [List.foldl_cons] at h
    have := fold_sub th r _ z h
    unfold dropS at this
    split at this
    · exact free_sub _ _ _ z this
    · exact this
theorem fold_holder (th : Int) : ∀ (ls : List Ho) (s : Tb × List Ho), Inv s.1 → ls.Pairwise (fun a b => a.1 ≠ b.1) → (∀ y ∈ ls, y.2 = th → y ∈ s.1.1) →
    ∀ k, holderM (ls.foldl (dropS th) s).1.1 k = if (k, th) ∈ ls then holderM s.1.2 k else holderM s.1.1 k
  | [], s, _, _, _, k => by simp
  | y :: r, s, hi, hp, hm, k => by
    rw [List.foldl_cons]
    have hp := List.pairwise_cons.1 hp
    by_cases e : y.2 = th
    · have hy := hm y (List.mem_cons_self ..) e
      have hd : dropS th s y = ((freeM s.1 th y.1).1, passM s.2 y.1 (freeM s.1 th y.1).2) := by unfold dropS; rw [if_pos e]
      rw [hd]
      have hfh := free_holder hi hy
      rw [e] at hfh
      have ih := fold_holder th r ((freeM s.1 th y.1).1, passM s.2 y.1 (freeM s.1 th y.1).2) (inv_free hi _ _) hp.2 (fun z hz hzt => by
        have hz1 := hm z (List.mem_cons_of_mem _ hz) hzt
        have hne : z.1 ≠ y.1 := fun h => hp.1 z hz h.symm
        have h1 := hfh z.1
        rw [if_neg hne, holderM_of hi.one hz1] at h1
        exact (holderM_some h1).1) k
      rw [ih]
      simp only
      by_cases ek : k = y.1
      · subst ek
        have hnr : (y.1, th) ∉ r := fun h => hp.1 _ h rfl
        rw [if_neg hnr, if_pos (by rw [← e]; exact List.mem_cons_self ..), hfh, if_pos rfl]
      · have hiff : ((k, th) ∈ y :: r) ↔ ((k, th) ∈ r) := by
          rw [List.mem_cons]
          constructor
          · rintro (h | h)
            · exact (ek (by rw [← h])).elim
            · exact h
          · exact .inr
        rw [hfh, if_neg ek, free_waiter hi th y.1 k ek]
        by_cases hr : (k, th) ∈ r
        · rw [if_pos hr, if_pos (hiff.2 hr)]
        · rw [if_neg hr, if_neg (fun h => hr (hiff.1 h))]
    · have hd : dropS th s y = s := by unfold dropS; rw [if_neg e]
      rw [hd, fold_holder th r s hi hp.2 (fun z hz => hm z (List.mem_cons_of_mem _ hz)) k]
      have hiff : ((k, th) ∈ y :: r) ↔ ((k, th) ∈ r) := by
        rw [List.mem_cons]
        constructor
        · rintro (h | h)
          · exact (e (by rw [← h])).elim
          · exact h
        · exact .inr
      by_cases hr : (k, th) ∈ r
      · rw [if_pos hr, if_pos (hiff.2 hr)]
      · rw [if_neg hr, if_neg (fun h => hr (hiff.1 h))]
theorem drop_holder {t : Tb} (hi : Inv t) (th k : Int) : holderM (dropM t th).1.1 k = if (k, th) ∈ t.1 then holderM t.2 k else holderM t.1 k := by
  unfold dropM
  rw [fold_holder th t.1 _ (inv_out hi th) hi.one (fun y hy _ => hy) k]
  by_cases h : (k, th) ∈ t.1
  · rw [if_pos h, if_pos h]
    refine holder_filter fun x hx e => ?_
    obtain ⟨y, hy, h1, h2⟩ := hi.held x hx
    have := one_eq hi.one hy h (by rw [h1, e])
    subst this
    have : x.2 ≠ th := fun e => h2 e.symm
    simpa using this
  · rw [if_neg h, if_neg h]
theorem drop_waits (t : Tb) (th : Int) : ∀ z ∈ (dropM t th).1.2, z.2 ≠ th := by
  intro z hz
  have := fold_sub th _ _ z hz
  unfold outM at this
  have := (List.mem_filter.1 this).2
  simpa using this
theorem drop_held {t : Tb} (hi : Inv t) (th : Int) : ∀ z ∈ (dropM t th).1.1, z.2 ≠ th := by
  intro z hz e
  have h1 := holderM_of (inv_drop hi th).one hz
  rw [drop_holder hi] at h1
  split at h1
  · rename_i h
    have h2 := holderM_some h1
    obtain ⟨y, hy, h3, h4⟩ := hi.held z h2.1
    have := one_eq hi.one hy h h3
    subst this
    exact h4 e.symm
  · rename_i h
    have h2 := holderM_some h1
    exact h (by rw [← e]; exact h2.1)
theorem fold_none (th : Int) : ∀ (ls : List Ho) (s : Tb × List Ho), (∀ y ∈ ls, y.2 ≠ th) → ls.foldl (dropS th) s = s
  | [], _, _ => rfl
  | y :: r, s, h => by
    rw [List.foldl_cons]
    have : dropS th s y = s := by unfold dropS; rw [if_neg (h y (List.mem_cons_self ..))]
    rw [this]
    exact fold_none th r s (fun z hz => h z (List.mem_cons_of_mem _ hz))
theorem drop_again {t : Tb} (hi : Inv t) (th : Int) : dropM (dropM t th).1 th = ((dropM t th).1, []) := by
  have h1 := drop_held hi th
  have h2 := drop_waits t th
  generalize (dropM t th).1 = u at h1 h2
  unfold dropM
  rw [fold_none th _ _ h1]
  have : outM u.2 th = u.2 := by
    unfold outM
    rw [List.filter_eq_self]
    intro y hy
    simpa using h2 y hy
  rw [this]
theorem drop_none {t : Tb} (th : Int) : waitsM (dropM t th).1.2 th = none := by
  unfold waitsM
  rw [List.find?_eq_none]
  intro y hy
  simpa using drop_waits t th y hy
end Go.Proofs.Ytakdagfnknmjjaa
