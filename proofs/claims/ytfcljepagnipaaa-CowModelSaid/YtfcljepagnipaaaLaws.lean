/-
  Proved here: plain laws of arenas, with no program in sight: what a key has behind a change; which places are reached.
-/
import Derived.Test.YtfcljepagnipaaaPlain
namespace Go.Proofs.Ytfcljepagnipaaa

theorem getI_in {a : Ar} {r key : Int} {k : Nat} (h : key = (k : Int)) (hk : k < 65536) : getI a r key = getM a r k := by
  subst h; unfold getI; rw [if_pos (by omega), Int.toNat_natCast]
theorem getI_out {a : Ar} {r key : Int} (h : ¬ (0 ≤ key ∧ key < 65536)) : getI a r key = none := by unfold getI; rw [if_neg h]
theorem getI_some {a : Ar} {r key : Int} (h : (getI a r key).isSome = true) : 0 ≤ key ∧ key < 65536 := by
  rcases Classical.em (0 ≤ key ∧ key < 65536) with h' | h'
  · exact h'
  · rw [getI_out h'] at h; cases h
theorem getI_ext {a x : Ar} {r : Int} (hr : r < (a.length : Int)) (key : Int) : getI (a ++ x) r key = getI a r key := by
  unfold getI
  split
  · exact getM_ext hr _
  · rfl

theorem view_get {b a : Ar} {q : Option Nat} {r : Int} {k : Nat} (v : Option Int) (hk : k < 65536) (hq : ∀ p, q = some p → p < b.length)
    (h : ∀ ask, viewM b ask 16 q = if ask % 2 ^ 16 = k % 2 ^ 16 then v else viewM a ask 16 (placeM a.length r)) (ask : Int) : getI b (pl q) ask = if ask = (k : Int) then v else getI a r ask := by
  by_cases ha : 0 ≤ ask ∧ ask < 65536
  · obtain ⟨n, rfl⟩ := Int.eq_ofNat_of_zero_le ha.1
    rw [getI_in rfl (by omega), getI_in rfl (by omega), getM_root, getM_root, placeM_pl hq, h n]
    have : (n % 2 ^ 16 = k % 2 ^ 16) ↔ ((n : Int) = (k : Int)) := by omega
    by_cases e : (n : Int) = (k : Int)
    · rw [if_pos (this.2 e), if_pos e]
    · rw [if_neg (fun h => e (this.1 h)), if_neg e]
  · rw [getI_out ha, getI_out ha, if_neg (by omega)]

theorem set_law {a : Ar} {r key val : Int} (h : 0 ≤ key ∧ key < 65536) : ∃ x q, setM a r key val = (a ++ x, pl q) ∧ (∀ p, q = some p → p < (a ++ x).length) ∧ x.length = 17 ∧ q ≠ none ∧
    ∀ ask, getI (a ++ x) (pl q) ask = if ask = key then some val else getI a r ask := by
  obtain ⟨k, rfl⟩ := Int.eq_ofNat_of_zero_le h.1
  obtain ⟨x, q, h1, h2, h3, h4, h5⟩ := climb_law a r k (some val) 16 (a ++ [(-1, -1, true, val)]) (some a.length) (Nat.le_refl _) ⟨_, rfl⟩ (by simp) (by
    intro ask
    simp [Nat.mod_one, viewM, valM])
  refine ⟨(-1, -1, true, val) :: x, q, ?_, ?_, ?_, (h4 (by simp)).2, ?_⟩
  · unfold setM
    rw [if_pos h, Int.toNat_natCast, show ((a.length : Nat) : Int) = pl (some a.length) from rfl, h1]
    simp
  · rw [show a ++ (-1, -1, true, val) :: x = (a ++ [(-1, -1, true, val)]) ++ x from by simp]; exact h2
  · have := (h4 (by simp)).1; simp [this]
  · rw [show a ++ (-1, -1, true, val) :: x = (a ++ [(-1, -1, true, val)]) ++ x from by simp]
    exact view_get (some val) (by omega) h2 h5
theorem set_out {a : Ar} {r key val : Int} (h : ¬ (0 ≤ key ∧ key < 65536)) : setM a r key val = (a, r) := by unfold setM; rw [if_neg h]
theorem del_law {a : Ar} {r key : Int} (h : (getI a r key).isSome = true) : ∃ x q, delM a r key = (a ++ x, pl q) ∧ (∀ p, q = some p → p < (a ++ x).length) ∧ x.length ≤ 16 ∧
    ∀ ask, getI (a ++ x) (pl q) ask = if ask = key then none else getI a r ask := by
  have hr := getI_some h
  obtain ⟨k, rfl⟩ := Int.eq_ofNat_of_zero_le hr.1
  obtain ⟨x, q, h1, h2, h3, h4, h5⟩ := climb_law a r k none 16 a none (Nat.le_refl _) ⟨[], by simp⟩ (by simp) (by
    intro ask
    simp [Nat.mod_one, viewM, valM])
  refine ⟨x, q, ?_, h2, h3, view_get none (by omega) h2 h5⟩
  unfold delM
  rw [if_pos h, Int.toNat_natCast, show (-1 : Int) = pl none from rfl, h1]
theorem del_no {a : Ar} {r key : Int} (h : ¬ (getI a r key).isSome = true) : delM a r key = (a, r) := by unfold delM; rw [if_neg h]
/-- A change leaves what was there, and its root is a place, or none, or the old one. -/
theorem set_ext (a : Ar) (r key val : Int) : ∃ x, (setM a r key val).1 = a ++ x ∧ x.length ≤ 17 := by
  by_cases h : 0 ≤ key ∧ key < 65536
  · obtain ⟨x, q, h1, _, h3, _⟩ := set_law (a := a) (r := r) (val := val) h
    exact ⟨x, by rw [h1], by omega⟩
  · exact ⟨[], by rw [set_out h]; simp, by simp⟩
theorem del_ext (a : Ar) (r key : Int) : ∃ x, (delM a r key).1 = a ++ x ∧ x.length ≤ 16 := by
  by_cases h : (getI a r key).isSome = true
  · obtain ⟨x, q, h1, _, h3, _⟩ := del_law h
    exact ⟨x, by rw [h1], h3⟩
  · exact ⟨[], by rw [del_no h]; simp, by simp⟩

/-! ### Keys -/
theorem keys_ext {a x : Ar} {r : Int} (hr : r < (a.length : Int)) : keysM (a ++ x) r = keysM a r := by
  unfold keysM
  apply List.filter_congr
  intro k _
  rw [getM_ext hr]
theorem keysM_len (a : Ar) (r : Int) : (keysM a r).length ≤ 65536 := by
  have := List.length_filter_le (fun k => (getM a r k).isSome) (List.range 65536)
  rw [List.length_range] at this
  exact this

/-! ### What is reached -/
inductive From (a : Ar) (p : Nat) : Nat → Prop
  | here : From a p p
  | step {q q' : Nat} (b : Bool) : From a p q → leadM a (some q) b = some q' → From a p q'
def Reach (a : Ar) (roots : List Int) (p : Nat) : Prop := ∃ r ∈ roots, ∃ p0, placeM a.length r = some p0 ∧ From a p0 p
theorem from_head {a : Ar} {p p' : Nat} (h : From a p p') : p = p' ∨ ∃ b q, leadM a (some p) b = some q ∧ From a q p' := by
  induction h with
  | here => exact .inl rfl
  | step b h1 h2 ih =>
    right
    rcases ih with rfl | ⟨b', q, h3, h4⟩
    · exact ⟨b, _, h2, .here⟩
    · exact ⟨b', q, h3, h4.step b h2⟩
theorem from_le {a : Ar} {p p' : Nat} (h : From a p p') : p' ≤ p := by
  induction h with
  | here => exact Nat.le_refl _
  | step b h1 h2 ih => have := leadM_lt h2; omega
theorem from_ext {a x : Ar} {p p' : Nat} (h : From a p p') (hp : p < a.length) : From (a ++ x) p p' := by
  induction h with
  | here => exact .here
  | step b h1 h2 ih =>
    have := from_le h1
    refine ih.step b ?_
    rw [leadM_ext (fun q hq => by cases hq; omega)]; exact h2
theorem from_back {a x : Ar} {p p' : Nat} (h : From (a ++ x) p p') (hp : p < a.length) : From a p p' := by
  induction h with
  | here => exact .here
  | step b h1 h2 ih =>
    have := from_le h1
    refine ih.step b ?_
    rw [leadM_ext (fun q hq => by cases hq; omega)] at h2; exact h2
theorem reach_lt {a : Ar} {roots : List Int} {p : Nat} (h : Reach a roots p) : p < a.length := by
  obtain ⟨r, _, p0, h1, h2⟩ := h
  have := (placeM_lt h1).1
  have := from_le h2
  omega
/-- How many are reached. -/
def LiveIs (a : Ar) (roots : List Int) (n : Nat) : Prop := ∃ f : Nat → Bool, (∀ p, f p = true ↔ Reach a roots p) ∧ n = ((List.range a.length).filter f).length
theorem live_one {a : Ar} {roots : List Int} {n m : Nat} (h : LiveIs a roots n) (h' : LiveIs a roots m) : n = m := by
  obtain ⟨f, hf, rfl⟩ := h
  obtain ⟨g, hg, rfl⟩ := h'
  have : f = g := by funext p; rw [Bool.eq_iff_iff, hf, hg]
  rw [this]
theorem filter_le {l : List Nat} {f g : Nat → Bool} (h : ∀ p ∈ l, f p = true → g p = true) : (l.filter f).length ≤ (l.filter g).length := by
  induction l with
  | nil => simp
  | cons x r ih =>
    have ih := ih (fun p hp => h p (List.mem_cons_of_mem _ hp))
    rw [List.filter_cons, List.filter_cons]
    by_cases hf : f x = true
    · rw [if_pos hf, if_pos (h x (List.mem_cons_self ..) hf)]; simpa using ih
    · rw [if_neg hf]
      split
      · simp only [List.length_cons]; omega
      · exact ih
theorem range_split (n k : Nat) (f : Nat → Bool) : ((List.range (n + k)).filter f).length ≤ ((List.range n).filter f).length + k := by
  rw [List.range_add, List.filter_append, List.length_append]
  have := List.length_filter_le f ((List.range k).map (n + ·))
  rw [List.length_map, List.length_range] at this
  omega
/-- More is reached where whatever was reached is. -/
theorem live_le {a : Ar} {x : Ar} {roots roots' : List Int} {n m : Nat} (h : LiveIs a roots n) (h' : LiveIs (a ++ x) roots' m) (hs : ∀ p, Reach a roots p → Reach (a ++ x) roots' p) : n ≤ m := by
  obtain ⟨f, hf, rfl⟩ := h
  obtain ⟨g, hg, rfl⟩ := h'
  rw [List.length_append, List.range_add, List.filter_append, List.length_append]
  have := filter_le (l := List.range a.length) (f := f) (g := g) (fun p _ h => (hg p).2 (hs p ((hf p).1 h)))
  omega
/-- And at most as many more as places have come, where of the old ones no more are reached. -/
theorem live_more {a : Ar} {x : Ar} {roots roots' : List Int} {n m : Nat} (h : LiveIs a roots n) (h' : LiveIs (a ++ x) roots' m) (hs : ∀ p, p < a.length → Reach (a ++ x) roots' p → Reach a roots p) : m ≤ n + x.length := by
  obtain ⟨f, hf, rfl⟩ := h
  obtain ⟨g, hg, rfl⟩ := h'
  rw [List.length_append]
  have h1 := range_split a.length x.length g
  have := filter_le (l := List.range a.length) (f := g) (g := f) (fun p hp h => (hf p).2 (hs p (List.mem_range.1 hp) ((hg p).1 h)))
  omega
theorem reach_walk {a : Ar} {r : Int} {key : Nat} : ∀ {n p : Nat}, walkM a r key n = some p → Reach a [r] p
  | 0, p, h => ⟨r, by simp, p, h, .here⟩
  | n + 1, p, h => by
    obtain ⟨p', h1, _⟩ := leadM_some h
    obtain ⟨r', h2, p0, h3, h4⟩ := reach_walk (n := n) h1
    refine ⟨r', h2, p0, h3, h4.step (bitM key n) ?_⟩
    rw [← h1]; exact h

/-- Of cells that a path put, each leads to another one of them, or to what was reached. -/
theorem climb_new (a0 : Ar) (r : Int) (key : Nat) : ∀ (n : Nat) (out : Ar) (q : Option Nat), (∃ x, out = a0 ++ x) → (∀ p, q = some p → a0.length ≤ p ∧ p < out.length) →
    (∀ p b q, a0.length ≤ p → leadM out (some p) b = some q → a0.length ≤ q ∨ Reach a0 [r] q) →
    (∃ q', (climbM a0 r key n out (pl q)).2 = pl q' ∧ ∀ p, q' = some p → a0.length ≤ p) ∧ ∀ p b q', a0.length ≤ p → leadM (climbM a0 r key n out (pl q)).1 (some p) b = some q' → a0.length ≤ q' ∨ Reach a0 [r] q'
  | 0, out, q, _, hq, hn => ⟨⟨q, rfl, fun p h => (hq p h).1⟩, hn⟩
  | n + 1, out, q, ⟨x0, hx0⟩, hq, hn => by
    have hreach : ∀ b p, leadM a0 (walkM a0 r key n) b = some p → Reach a0 [r] p := by
      intro b p hp
      obtain ⟨p', h1, _⟩ := leadM_some hp
      obtain ⟨r', h2, p0, h3, h4⟩ := reach_walk h1
      exact ⟨r', h2, p0, h3, h4.step b (by rw [← h1]; exact hp)⟩
    generalize hod : walkM a0 r key n = old at *
    have hlen : a0.length ≤ out.length := by rw [hx0]; simp
    have hother : ∀ (b : Bool) p, leadM a0 old b = some p → p < a0.length := fun b p hp => by obtain ⟨p', h1, h2, h3⟩ := leadM_some hp; omega
    obtain ⟨z, hz⟩ : ∃ z, (if bitM key n then leadM a0 old false else q) = z := ⟨_, rfl⟩
    obtain ⟨o, ho⟩ : ∃ o, (if bitM key n then q else leadM a0 old true) = o := ⟨_, rfl⟩
    have hzp : (if bitM key n then pl (leadM a0 old false) else pl q) = pl z := by rw [← hz]; split <;> rfl
    have hop : (if bitM key n then pl q else pl (leadM a0 old true)) = pl o := by rw [← ho]; split <;> rfl
    have hzl : ∀ p, z = some p → p < out.length ∧ (a0.length ≤ p ∨ Reach a0 [r] p) := by
      intro p hp; rw [← hz] at hp
      split at hp
      · have := hother _ _ hp; exact ⟨by omega, .inr (hreach _ _ hp)⟩
      · exact ⟨(hq p hp).2, .inl (hq p hp).1⟩
    have hol : ∀ p, o = some p → p < out.length ∧ (a0.length ≤ p ∨ Reach a0 [r] p) := by
      intro p hp; rw [← ho] at hp
      split at hp
      · exact ⟨(hq p hp).2, .inl (hq p hp).1⟩
      · have := hother _ _ hp; exact ⟨by omega, .inr (hreach _ _ hp)⟩
    have hstep : climbM a0 r key (n + 1) out (pl q) = if pl z = -1 ∧ pl o = -1 then climbM a0 r key n out (-1) else climbM a0 r key n (out ++ [(pl z, pl o, false, 0)]) out.length := by
      conv => lhs; unfold climbM
      simp only [hod, hzp, hop]
    by_cases hnone : pl z = -1 ∧ pl o = -1
    · rw [hstep, if_pos hnone]
      exact climb_new a0 r key n out none ⟨x0, hx0⟩ (by simp) hn
    · rw [hstep, if_neg hnone]
      refine climb_new a0 r key n (out ++ [(pl z, pl o, false, 0)]) (some out.length) ⟨x0 ++ [(pl z, pl o, false, 0)], by rw [hx0, List.append_assoc]⟩ (fun p hp => by cases hp; simp; omega) ?_
      intro p b q' hp hl
      rcases Nat.lt_or_ge p out.length with h | h
      · rw [leadM_ext (fun q hq => by cases hq; exact h)] at hl
        exact hn p b q' hp hl
      · have := leadM_lt hl
        simp only [List.length_append, List.length_cons, List.length_nil] at this
        have hpe : p = out.length := by omega
        subst hpe
        unfold leadM at hl
        simp only [List.getElem?_append_right (Nat.le_refl _), Nat.sub_self, List.getElem?_cons_zero] at hl
        cases b
        · rw [show (if false = true then pl o else pl z) = pl z from rfl, placeM_pl (fun q hq => (hzl q hq).1)] at hl
          exact (hzl q' hl).2
        · rw [show (if true = true then pl o else pl z) = pl o from rfl, placeM_pl (fun q hq => (hol q hq).1)] at hl
          exact (hol q' hl).2
end Go.Proofs.Ytfcljepagnipaaa
