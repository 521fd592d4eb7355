/-
  Proved here, in plain Lean: what a run of programs tells: their first acts in order, no lock that another holds, more picks go on from there, programs that take no lock while they hold one all end; it is the document's answer.
  Conditions: none beyond each law's own.
-/
import Derived.Test.YtnmhgfeglfcbgaaRun
namespace Go.Proofs.Ytnmhgfeglfcbgaa
set_option maxRecDepth 100000

/-! ### Going on from there -/
theorem able_who1 {xs : List (List Akt)} {s : Fo} {p : Int} (h : (ableM xs s.2.2 s.2.1).length ≠ 0) : whoM xs s p < xs.length ∧ ableAt s.2.2 s.2.1 (whoM xs s p) (xs.getD (whoM xs s p) []) = true := by
  have hpl := placeM_lt (p := p) (n := ((ableM xs s.2.2 s.2.1).length : Int)) (by omega)
  have hlt : (placeM p (ableM xs s.2.2 s.2.1).length).toNat < (ableM xs s.2.2 s.2.1).length := by omega
  obtain ⟨x, hx⟩ : ∃ x, (ableM xs s.2.2 s.2.1)[(placeM p (ableM xs s.2.2 s.2.1).length).toNat]? = some x := ⟨_, List.getElem?_eq_getElem hlt⟩
  obtain ⟨i, rfl, hi, hab⟩ := ableTo_mem (List.mem_of_getElem? hx)
  have hw : whoM xs s p = i := by unfold whoM; simp [hx]
  rw [hw]
  exact ⟨hi, hab⟩

theorem followM_cons (xs : List (List Akt)) (p : Int) (ps : List Int) (s : Fo) : followM xs (p :: ps) s = if (ableM xs s.2.2 s.2.1).length = 0 then s else followM xs ps (turnM xs s (whoM xs s p)) := rfl
theorem followM_stop (xs : List (List Akt)) {s : Fo} (h : (ableM xs s.2.2 s.2.1).length = 0) : ∀ ps, followM xs ps s = s
  | [] => rfl
  | p :: ps => by rw [followM_cons, if_pos h]
theorem followM_append (xs : List (List Akt)) (b : List Int) : ∀ (a : List Int) (s : Fo), followM xs (a ++ b) s = followM xs b (followM xs a s)
  | [], s => rfl
  | p :: a, s => by
    rw [List.cons_append, followM_cons, followM_cons]
    by_cases h : (ableM xs s.2.2 s.2.1).length = 0
    · rw [if_pos h, if_pos h, followM_stop xs h]
    · rw [if_neg h, if_neg h]; exact followM_append xs b a _

/-- What holds of the start and stays with each turn of one who is able. -/
theorem followM_inv {xs : List (List Akt)} (I : Fo → Prop) (hI : ∀ s who, I s → who < xs.length → ableAt s.2.2 s.2.1 who (xs.getD who []) = true → I (turnM xs s who)) : ∀ (ps : List Int) (s : Fo), I s → I (followM xs ps s)
  | [], s, h => h
  | p :: ps, s, h => by
    unfold followM
    split
    · exact h
    · rename_i hn
      exact followM_inv I hI ps _ (hI s _ h (able_who1 hn).1 (able_who1 hn).2)
theorem followM_notes (xs : List (List Akt)) : ∀ (ps : List Int) (s : Fo), ∃ r, (followM xs ps s).1 = s.1 ++ r ∧ r.length ≤ ps.length
  | [], s => ⟨[], by simp [followM], by simp⟩
  | p :: ps, s => by
    unfold followM
    split
    · exact ⟨[], by simp, by simp⟩
    · obtain ⟨r, h1, h2⟩ := followM_notes xs ps (turnM xs s (whoM xs s p))
      refine ⟨_ :: r, by rw [h1]; simp only [turnM, List.append_assoc, List.singleton_append]; rfl, by simp only [List.length_cons]; omega⟩
/-- Each pick is a turn, or nobody is able any more. -/
theorem followM_all (xs : List (List Akt)) : ∀ (ps : List Int) (s : Fo), (followM xs ps s).1.length = s.1.length + ps.length ∨ (ableM xs (followM xs ps s).2.2 (followM xs ps s).2.1).length = 0
  | [], s => .inl rfl
  | p :: ps, s => by
    unfold followM
    split
    · rename_i h; exact .inr h
    · rcases followM_all xs ps (turnM xs s (whoM xs s p)) with h | h
      · refine .inl ?_
        rw [h]; simp only [turnM, List.length_append, List.length_cons, List.length_nil]; omega
      · exact .inr h

def st0 (xs : List (List Akt)) : Fo := ([], [], List.replicate xs.length 0)
/-- With more picks it goes on from there. -/
theorem more_law (xs : List (List Akt)) (a b : List Int) : ∃ r, (runM xs (a ++ b)).1 = (runM xs a).1 ++ r ∧ ((runM xs a).1.length = a.length ∨ (runM xs (a ++ b)).1.length = (runM xs a).1.length) := by
  show ∃ r, (followM xs (a ++ b) (st0 xs)).1 = (followM xs a (st0 xs)).1 ++ r ∧ ((followM xs a (st0 xs)).1.length = a.length ∨ (followM xs (a ++ b) (st0 xs)).1.length = (followM xs a (st0 xs)).1.length)
  rw [followM_append]
  obtain ⟨r, h1, _⟩ := followM_notes xs b (followM xs a (st0 xs))
  refine ⟨r, h1, ?_⟩
  rcases followM_all xs a (st0 xs) with h | h
  · left; rw [h]; simp [st0]
  · right; rw [followM_stop xs h]

/-! ### What a turn does -/
/-- How far all are fits. -/
structure Fit (xs : List (List Akt)) (s : Fo) : Prop where
  len : s.2.2.length = xs.length
  nn : ∀ (i : Nat) (d : Int), s.2.2[i]? = some d → 0 ≤ d ∧ d ≤ ((xs.getD i []).length : Int)
theorem Fit.start (xs : List (List Akt)) : Fit xs (st0 xs) := by
  refine ⟨List.length_replicate .., fun i d h => ?_⟩
  simp only [st0, List.getElem?_replicate] at h
  split at h
  · cases h; omega
  · cases h
/-- What one knows of one who is able. -/
theorem able_at {xs : List (List Akt)} {s : Fo} {who : Nat} (hf : Fit xs s) (hw : who < xs.length) (ha : ableAt s.2.2 s.2.1 who (xs.getD who []) = true) :
    ∃ d : Nat, s.2.2[who]? = some (d : Int) ∧ s.2.2.getD who 0 = (d : Int) ∧ (xs.getD who [])[d]? = some (nextA xs s who) ∧ d < (xs.getD who []).length ∧ ((nextA xs s who).1 = 1 → ∀ h ∈ s.2.1, h.1 = (nextA xs s who).2 → h.2 = (who : Int)) := by
  obtain ⟨d, hd⟩ : ∃ d, s.2.2[who]? = some d := ⟨_, List.getElem?_eq_getElem (by rw [hf.len]; exact hw)⟩
  have h0 := (hf.nn who d hd).1
  obtain ⟨m, rfl⟩ := Int.eq_ofNat_of_zero_le h0
  have hat : atM s.2.2 who = m := by unfold atM; rw [hd]; show max (m : Int) 0 = m; omega
  unfold ableAt at ha
  rw [hat] at ha
  have hg : s.2.2.getD who 0 = (m : Int) := by rw [List.getD_eq_getElem?_getD, hd]; rfl
  cases hx : (xs.getD who [])[m]? with
  | none => rw [show (m : Int).toNat = m from rfl, hx] at ha; cases ha
  | some a =>
    rw [show (m : Int).toNat = m from rfl, hx] at ha
    have hn : nextA xs s who = a := by unfold nextA; rw [hg, show (m : Int).toNat = m from rfl, List.getD_eq_getElem?_getD, hx]; rfl
    refine ⟨m, hd, hg, by rw [hn]; exact hx, (List.getElem?_eq_some_iff.1 hx).1, fun h1 h hh h2 => ?_⟩
    rw [hn] at h1 h2
    simp only [h1, beq_self_eq_true, Bool.true_and, Bool.not_eq_true', List.any_eq_false, Bool.and_eq_true, beq_iff_eq, bne_iff_ne, ne_eq, not_and, Decidable.not_not] at ha
    exact ha h hh h2
theorem turn_done {xs : List (List Akt)} {s : Fo} {who : Nat} {d : Nat} (hd : s.2.2.getD who 0 = (d : Int)) : (turnM xs s who).2.2 = s.2.2.set who ((d : Int) + 1) := by
  show s.2.2.set who (s.2.2.getD who 0 + 1) = _
  rw [hd]
theorem Fit.turn {xs : List (List Akt)} {s : Fo} {who : Nat} (hf : Fit xs s) (hw : who < xs.length) (ha : ableAt s.2.2 s.2.1 who (xs.getD who []) = true) : Fit xs (turnM xs s who) := by
  obtain ⟨d, h1, h2, h3, h4, _⟩ := able_at hf hw ha
  refine ⟨by rw [turn_done h2, List.length_set]; exact hf.len, fun i e he => ?_⟩
  rw [turn_done h2, List.getElem?_set] at he
  split at he
  · rename_i hi
    subst hi
    split at he
    · cases he; omega
    · cases he
  · exact hf.nn i e he
theorem fit_follow (xs : List (List Akt)) (ps : List Int) : Fit xs (followM xs ps (st0 xs)) := followM_inv (Fit xs) (fun _ _ h => h.turn) ps _ (Fit.start xs)

/-! ### The first acts, in order -/
/-- One note is the next act of its program. -/
def stepM (xs : List (List Akt)) (d : List Int) (n : Nt) : Option (List Int) :=
  if 0 ≤ n.1 ∧ n.1 < (xs.length : Int) ∧ d.getD n.1.toNat 0 < ((xs.getD n.1.toNat []).length : Int) ∧ (xs.getD n.1.toNat []).getD (d.getD n.1.toNat 0).toNat (0, 0) = n.2 then some (d.set n.1.toNat (d.getD n.1.toNat 0 + 1)) else none
def repM (xs : List (List Akt)) : List Nt → List Int → Option (List Int)
  | [], d => some d
  | n :: ns, d => (stepM xs d n).bind (repM xs ns)
theorem repM_append (xs : List (List Akt)) (b : List Nt) : ∀ (a : List Nt) (d : List Int), repM xs (a ++ b) d = (repM xs a d).bind (repM xs b)
  | [], d => rfl
  | n :: a, d => by
    show (stepM xs d n).bind (repM xs (a ++ b)) = ((stepM xs d n).bind (repM xs a)).bind (repM xs b)
    cases stepM xs d n with
    | none => rfl
    | some e => exact repM_append xs b a e
theorem acts_law (xs : List (List Akt)) (ps : List Int) : repM xs (followM xs ps (st0 xs)).1 (List.replicate xs.length 0) = some (followM xs ps (st0 xs)).2.2 := by
  have := followM_inv (xs := xs) (fun s => Fit xs s ∧ repM xs s.1 (List.replicate xs.length 0) = some s.2.2) (fun s who h hw ha => ?_) ps (st0 xs) ⟨Fit.start xs, rfl⟩
  · exact this.2
  · obtain ⟨hf, hr⟩ := h
    refine ⟨hf.turn hw ha, ?_⟩
    obtain ⟨d, h1, h2, h3, h4, _⟩ := able_at hf hw ha
    show repM xs (s.1 ++ [((who : Int), (nextA xs s who).1, (nextA xs s who).2)]) _ = _
    rw [repM_append, hr, turn_done h2]
    show (stepM xs s.2.2 _).bind some = _
    unfold stepM
    have h5 : (xs.getD who []).getD d (0, 0) = nextA xs s who := by rw [List.getD_eq_getElem?_getD, h3]; rfl
    rw [if_pos ⟨by omega, by omega, by simp only [Int.toNat_natCast]; rw [h2]; omega, by simp only [Int.toNat_natCast]; rw [h2]; exact h5⟩]
    simp only [Int.toNat_natCast, Option.bind_some]
    rw [h2]
/-- Up to each note; what the next one is. -/
theorem repM_at {xs : List (List Akt)} {ns : List Nt} {d D : List Int} (h : repM xs ns d = some D) {k : Nat} {n : Nt} (hk : ns[k]? = some n) : ∃ e e', repM xs (ns.take k) d = some e ∧ stepM xs e n = some e' ∧ repM xs (ns.take (k + 1)) d = some e' := by
  have hlt : k < ns.length := (List.getElem?_eq_some_iff.1 hk).1
  rw [← List.take_append_drop k ns, repM_append] at h
  cases he : repM xs (ns.take k) d with
  | none => rw [he] at h; cases h
  | some e =>
    rw [he] at h
    have hd : ns.drop k = n :: ns.drop (k + 1) := by
      rw [List.drop_eq_getElem_cons hlt]
      rw [List.getElem?_eq_getElem hlt] at hk
      cases hk; rfl
    rw [hd] at h
    have h' : (stepM xs e n).bind (repM xs (ns.drop (k + 1))) = some D := h
    cases hs : stepM xs e n with
    | none => rw [hs] at h'; cases h'
    | some e' =>
      refine ⟨e, e', rfl, hs, ?_⟩
      rw [List.take_add_one, hk, repM_append, he]
      show (stepM xs e n).bind _ = _
      rw [hs]; rfl
theorem stepM_some {xs : List (List Akt)} {d e : List Int} {n : Nt} (h : stepM xs d n = some e) : 0 ≤ n.1 ∧ n.1 < (xs.length : Int) ∧ d.getD n.1.toNat 0 < ((xs.getD n.1.toNat []).length : Int) ∧ (xs.getD n.1.toNat []).getD (d.getD n.1.toNat 0).toNat (0, 0) = n.2 ∧ e = d.set n.1.toNat (d.getD n.1.toNat 0 + 1) := by
  unfold stepM at h
  split at h
  · rename_i hc
    cases h
    exact ⟨hc.1, hc.2.1, hc.2.2.1, hc.2.2.2, rfl⟩
  · cases h
theorem repM_nn {xs : List (List Akt)} : ∀ (ns : List Nt) {d e : List Int}, (∀ i, 0 ≤ d.getD i 0) → repM xs ns d = some e → (∀ i, 0 ≤ e.getD i 0) ∧ e.length = d.length
  | [], d, e, h, hr => by cases hr; exact ⟨h, rfl⟩
  | n :: ns, d, e, h, hr => by
    have hr' : (stepM xs d n).bind (repM xs ns) = some e := hr
    cases hs : stepM xs d n with
    | none => rw [hs] at hr'; cases hr'
    | some d' =>
      rw [hs] at hr'
      obtain ⟨_, _, _, _, rfl⟩ := stepM_some hs
      have := repM_nn ns (d := d.set n.1.toNat (d.getD n.1.toNat 0 + 1)) (fun i => by
        rw [List.getD_eq_getElem?_getD, List.getElem?_set]
        split
        · split
          · have := h n.1.toNat; simp only [Option.getD_some]; omega
          · simp
        · rw [← List.getD_eq_getElem?_getD]; exact h i) hr'
      exact ⟨this.1, by rw [this.2, List.length_set]⟩

/-! ### How many acts are done -/
theorem sum_set : ∀ (l : List Int) (i : Nat) (x y : Int), l[i]? = some x → (l.set i y).sum = l.sum - x + y
  | [], i, x, y, h => by simp at h
  | a :: l, 0, x, y, h => by simp at h; subst h; simp only [List.set_cons_zero, List.sum_cons]; omega
  | a :: l, i + 1, x, y, h => by
    have := sum_set l i x y (by simpa using h)
    simp only [List.set_cons_succ, List.sum_cons]; omega
theorem sum_zero (n : Nat) : (List.replicate n (0 : Int)).sum = 0 := by
  induction n with
  | zero => rfl
  | succ n ih => rw [List.replicate_succ, List.sum_cons, ih]; rfl
theorem done_sum (xs : List (List Akt)) (ps : List Int) : (followM xs ps (st0 xs)).2.2.sum = ((followM xs ps (st0 xs)).1.length : Int) := by
  have := followM_inv (xs := xs) (fun s => Fit xs s ∧ s.2.2.sum = (s.1.length : Int)) (fun s who h hw ha => ?_) ps (st0 xs) ⟨Fit.start xs, sum_zero _⟩
  · exact this.2
  · obtain ⟨hf, hr⟩ := h
    refine ⟨hf.turn hw ha, ?_⟩
    obtain ⟨d, h1, h2, h3, h4, _⟩ := able_at hf hw ha
    rw [turn_done h2, sum_set _ _ _ _ h1]
    simp only [turnM, List.length_append, List.length_cons, List.length_nil]
    omega
def total (xs : List (List Akt)) : Int := (xs.map fun l => (l.length : Int)).sum
theorem leftM_zip (xs : List (List Akt)) (d : List Int) (h : d.length = xs.length) : leftM xs d = List.zipWith (fun l x => (l.length : Int) - x) xs d := by
  apply List.ext_getElem?
  intro i
  unfold leftM
  by_cases hi : i < xs.length
  · simp only [List.getElem?_mapIdx, List.getElem?_zipWith, List.getElem?_eq_getElem hi, List.getElem?_eq_getElem (h ▸ hi : i < d.length), List.getD_eq_getElem?_getD, Option.map_some, Option.getD_some]
  · rw [List.getElem?_eq_none (by simp; omega), List.getElem?_eq_none (by simp; omega)]
theorem zip_sum : ∀ (xs : List (List Akt)) (d : List Int), d.length = xs.length → (List.zipWith (fun l x => (l.length : Int) - x) xs d).sum = total xs - d.sum
  | [], [], _ => rfl
  | l :: xs, x :: d, h => by
    have := zip_sum xs d (by simpa using h)
    unfold total at this ⊢
    simp only [List.zipWith_cons_cons, List.sum_cons, List.map_cons]
    omega
theorem left_sum (xs : List (List Akt)) (ps : List Int) : (runM xs ps).2.sum = total xs - ((runM xs ps).1.length : Int) := by
  show (leftM xs (followM xs ps (st0 xs)).2.2).sum = total xs - ((followM xs ps (st0 xs)).1.length : Int)
  rw [leftM_zip _ _ (fit_follow xs ps).len, zip_sum _ _ (fit_follow xs ps).len, done_sum]
theorem left_nn (xs : List (List Akt)) (ps : List Int) : ∀ x ∈ (runM xs ps).2, 0 ≤ x := by
  intro x hx
  have hf := fit_follow xs ps
  obtain ⟨i, hi, rfl⟩ := List.getElem_of_mem hx
  have hi' : i < xs.length := by have : i < (leftM xs (followM xs ps (st0 xs)).2.2).length := hi; simpa [leftM] using this
  obtain ⟨d, hd⟩ : ∃ d, (followM xs ps (st0 xs)).2.2[i]? = some d := ⟨_, List.getElem?_eq_getElem (by rw [hf.len]; exact hi')⟩
  have h1 := hf.nn i d hd
  have : (runM xs ps).2[i] = ((xs[i]).length : Int) - d := by
    show (leftM xs (followM xs ps (st0 xs)).2.2)[i]'hi = _
    simp only [leftM, List.getElem_mapIdx]
    rw [List.getD_eq_getElem?_getD, hd]; rfl
  rw [this]
  rw [List.getD_eq_getElem?_getD, List.getElem?_eq_getElem hi'] at h1
  simp only [Option.getD_some] at h1
  omega
theorem sum_nn : ∀ (l : List Int), (∀ x ∈ l, 0 ≤ x) → 0 ≤ l.sum
  | [], _ => Int.le_refl _
  | a :: l, h => by
    have h1 := h a (List.mem_cons_self ..)
    have h2 := sum_nn l fun x hx => h x (List.mem_cons_of_mem _ hx)
    rw [List.sum_cons]; omega
theorem sum_none : ∀ (l : List Int), (∀ x ∈ l, 0 ≤ x) → l.sum = 0 → ∀ x ∈ l, x = 0
  | a :: l, h, hs, x, hx => by
    have h1 := h a (List.mem_cons_self ..)
    have h2 := sum_nn l fun x hx => h x (List.mem_cons_of_mem _ hx)
    rw [List.sum_cons] at hs
    rcases List.mem_cons.1 hx with rfl | hx
    · omega
    · exact sum_none l (fun x hx => h x (List.mem_cons_of_mem _ hx)) (by omega) x hx

/-! ### Nobody is stuck -/
/-- What a program holds, if it takes no lock while it holds one. -/
def simS (a : Akt) (s : Bool × Int) : Option (Bool × Int) := if a.1 = 1 then (if s.1 = true then none else some (true, a.2)) else if a.1 = 2 ∧ a.2 = s.2 then some (false, s.2) else some s
def simM : List Akt → Bool × Int → Option (Bool × Int)
  | [], s => some s
  | a :: l, s => (simS a s).bind (simM l)
theorem simM_append (b : List Akt) : ∀ (a : List Akt) (s : Bool × Int), simM (a ++ b) s = (simM a s).bind (simM b)
  | [], s => rfl
  | x :: a, s => by
    show (simS x s).bind (simM (a ++ b)) = ((simS x s).bind (simM a)).bind (simM b)
    cases simS x s with
    | none => rfl
    | some e => exact simM_append b a e
theorem simM_at {l : List Akt} {s : Bool × Int} (h : (simM l s).isSome = true) {k : Nat} {a : Akt} (hk : l[k]? = some a) : ∃ e e', simM (l.take k) s = some e ∧ simS a e = some e' ∧ simM (l.take (k + 1)) s = some e' := by
  have hlt : k < l.length := (List.getElem?_eq_some_iff.1 hk).1
  rw [← List.take_append_drop k l, simM_append] at h
  cases he : simM (l.take k) s with
  | none => rw [he] at h; cases h
  | some e =>
    rw [he] at h
    have hd : l.drop k = a :: l.drop (k + 1) := by
      rw [List.drop_eq_getElem_cons hlt]
      rw [List.getElem?_eq_getElem hlt] at hk
      cases hk; rfl
    rw [hd] at h
    have h' : ((simS a e).bind (simM (l.drop (k + 1)))).isSome = true := h
    cases hs : simS a e with
    | none => rw [hs] at h'; cases h'
    | some e' =>
      refine ⟨e, e', rfl, hs, ?_⟩
      rw [List.take_add_one, hk, simM_append, he]
      show (simS a e).bind _ = _
      rw [hs]; rfl
theorem behind_who {l : List Ho} {x : Nt} {last : Bool} {h : Ho} (hh : h ∈ behindM l x last) (hn : h.2 ≠ x.1) : h ∈ l := by
  unfold behindM at hh
  split at hh
  · exact (List.mem_filter.1 hh).1
  · split at hh
    · rcases List.mem_append.1 hh with h1 | h1
      · exact h1
      · rw [List.mem_singleton] at h1; subst h1; exact absurd rfl hn
    · split at hh
      · exact (List.mem_filter.1 hh).1
      · exact hh
theorem behind_stay {l : List Ho} {x : Nt} {last : Bool} {h : Ho} (hh : h ∈ l) (hn : h.2 ≠ x.1) : h ∈ behindM l x last := by
  unfold behindM
  split
  · exact List.mem_filter.2 ⟨hh, by simpa using hn⟩
  · split
    · exact List.mem_append_left _ hh
    · split
      · exact List.mem_filter.2 ⟨hh, by simp; intro e; rw [e] at hn; exact hn rfl⟩
      · exact hh
/-- What is held is what programs that are not at their end hold. -/
def Keeps (xs : List (List Akt)) (s : Fo) : Prop := ∀ h ∈ s.2.1, ∃ i d : Nat, i < xs.length ∧ h.2 = (i : Int) ∧ s.2.2[i]? = some (d : Int) ∧ d < (xs.getD i []).length ∧ simM ((xs.getD i []).take d) (false, 0) = some (true, h.1)
def Calm (xs : List (List Akt)) : Prop := ∀ i, i < xs.length → (simM (xs.getD i []) (false, 0)).isSome = true
theorem Keeps.turn {xs : List (List Akt)} (hc : Calm xs) {s : Fo} {who : Nat} (hf : Fit xs s) (hk : Keeps xs s) (hw : who < xs.length) (ha : ableAt s.2.2 s.2.1 who (xs.getD who []) = true) : Keeps xs (turnM xs s who) := by
  obtain ⟨d, h1, h2, h3, h4, _⟩ := able_at hf hw ha
  intro h hh
  have hh' : h ∈ behindM s.2.1 ((who : Int), (nextA xs s who).1, (nextA xs s who).2) (s.2.2.getD who 0 + 1 == ((xs.getD who []).length : Int)) := hh
  have hdl := (List.getElem?_eq_some_iff.1 h1).1
  by_cases he : h.2 = (who : Int)
  · obtain ⟨e, e', hs1, hs2, hs3⟩ := simM_at (hc who hw) h3
    have hnew : (turnM xs s who).2.2[who]? = some ((d + 1 : Nat) : Int) := by rw [turn_done h2, List.getElem?_set_self hdl]; simp
    have hold : ∀ g ∈ s.2.1, g.2 = (who : Int) → e = (true, g.1) := by
      intro g hg hgw
      obtain ⟨i, d', _, h6, h7, _, h9⟩ := hk g hg
      have : i = who := by omega
      subst this
      rw [h1] at h7
      have h7' : (d : Int) = (d' : Int) := by simpa using h7
      have : d = d' := by omega
      subst this
      rw [hs1] at h9; exact Option.some.inj h9
    unfold behindM at hh'
    rw [h2] at hh'
    split at hh'
    · have := (List.mem_filter.1 hh').2
      simp [he] at this
    rename_i hl
    have hlt : d + 1 < (xs.getD who []).length := by
      have : ¬ ((d : Int) + 1 = ((xs.getD who []).length : Int)) := by simpa using hl
      omega
    refine ⟨who, d + 1, hw, he, hnew, hlt, ?_⟩
    rw [hs3]
    unfold simS at hs2
    by_cases hk1 : (nextA xs s who).1 = 1
    · rw [if_pos hk1] at hs2
      split at hs2
      · cases hs2
      rename_i hef
      cases hs2
      have hh2 : h = ((nextA xs s who).2, (who : Int)) := by
        split at hh'
        · rcases List.mem_append.1 hh' with h5 | h5
          · exact absurd (congrArg Prod.fst (hold h h5 he)) hef
          · simpa using h5
        · rename_i hx
          have hm : ((nextA xs s who).2, (who : Int)) ∈ s.2.1 := Decidable.byContradiction fun hn => hx ⟨hk1, hn⟩
          exact absurd (congrArg Prod.fst (hold _ hm rfl)) hef
      rw [hh2]
    · rw [if_neg hk1] at hs2
      rw [if_neg (fun h => hk1 h.1)] at hh'
      split at hh'
      · rename_i hk2
        have hh3 := List.mem_filter.1 hh'
        have hho := hold h hh3.1 he
        have hne : h ≠ ((nextA xs s who).2, (who : Int)) := by simpa using hh3.2
        rw [if_neg (fun h5 => hne (by rw [hho] at h5; exact Prod.ext h5.2.symm he))] at hs2
        cases hs2; rw [hho]
      · rename_i hk2
        rw [if_neg (fun h5 => hk2 h5.1)] at hs2
        cases hs2; rw [hold h hh' he]
  · obtain ⟨i, d', h5, h6, h7, h8, h9⟩ := hk h (behind_who hh' he)
    refine ⟨i, d', h5, h6, ?_, h8, h9⟩
    rw [turn_done h2, List.getElem?_set_ne (fun e => he (by rw [h6, e]))]
    exact h7
theorem calm_follow {xs : List (List Akt)} (hc : Calm xs) (ps : List Int) : Keeps xs (followM xs ps (st0 xs)) :=
  (followM_inv (xs := xs) (fun s => Fit xs s ∧ Keeps xs s) (fun _ _ h hw ha => ⟨h.1.turn hw ha, h.2.turn hc h.1 hw ha⟩) ps (st0 xs) ⟨Fit.start xs, fun h hh => by simp [st0] at hh⟩).2
/-- Where nobody is able, all are at their end. -/
theorem stuck_end {xs : List (List Akt)} (hc : Calm xs) {s : Fo} (hf : Fit xs s) (hk : Keeps xs s) (h0 : (ableM xs s.2.2 s.2.1).length = 0) : ∀ (i : Nat) (d : Int), s.2.2[i]? = some d → d = ((xs.getD i []).length : Int) := by
  have hno : ∀ i, i < xs.length → ableAt s.2.2 s.2.1 i (xs.getD i []) = false := by
    intro i hi
    cases hab : ableAt s.2.2 s.2.1 i (xs.getD i []) with
    | false => rfl
    | true =>
      have : (i : Int) ∈ ableM xs s.2.2 s.2.1 := by
        unfold ableM ableTo
        exact List.mem_map.2 ⟨i, List.mem_filter.2 ⟨List.mem_range.2 hi, hab⟩, rfl⟩
      rw [List.length_eq_zero_iff.1 h0] at this; cases this
  have hlock : ∀ (i d : Nat), s.2.2[i]? = some (d : Int) → d < (xs.getD i []).length → ∃ a, (xs.getD i [])[d]? = some a ∧ a.1 = 1 ∧ ∃ h ∈ s.2.1, h.1 = a.2 ∧ h.2 ≠ (i : Int) := by
    intro i d hd hlt
    have hi : i < xs.length := by rw [← hf.len]; exact (List.getElem?_eq_some_iff.1 hd).1
    have ha := hno i hi
    obtain ⟨a, hx⟩ : ∃ a, (xs.getD i [])[d]? = some a := ⟨_, List.getElem?_eq_getElem hlt⟩
    unfold ableAt at ha
    have hat : atM s.2.2 i = d := by unfold atM; rw [hd]; show max (d : Int) 0 = d; omega
    rw [hat, show (d : Int).toNat = d from rfl, hx] at ha
    simp only [Bool.not_eq_false', Bool.and_eq_true, beq_iff_eq, List.any_eq_true, bne_iff_ne, ne_eq] at ha
    obtain ⟨h1, h, hh, h2, h3⟩ := ha
    exact ⟨a, hx, h1, h, hh, h2, h3⟩
  intro i d hd
  have hb := hf.nn i d hd
  obtain ⟨m, rfl⟩ := Int.eq_ofNat_of_zero_le hb.1
  rcases Nat.lt_or_ge m (xs.getD i []).length with hlt | hge
  · obtain ⟨a, _, _, h, hh, _, _⟩ := hlock i m hd hlt
    obtain ⟨j, e, hj, _, h7, h8, h9⟩ := hk h hh
    obtain ⟨b, hb1, hb2, _⟩ := hlock j e h7 h8
    obtain ⟨f, f', hs1, hs2, _⟩ := simM_at (hc j hj) hb1
    rw [h9] at hs1
    cases hs1
    unfold simS at hs2
    rw [if_pos hb2, if_pos rfl] at hs2
    cases hs2
  · omega
theorem sum_full : ∀ (xs : List (List Akt)) (d : List Int), d.length = xs.length → (∀ (i : Nat) (x : Int), d[i]? = some x → x = ((xs.getD i []).length : Int)) → d.sum = total xs
  | [], [], _, _ => rfl
  | l :: xs, x :: d, h, hx => by
    have h1 := hx 0 x rfl
    have h2 := sum_full xs d (by simpa using h) fun i y hy => by have := hx (i + 1) y (by simpa using hy); simpa using this
    unfold total at h2 ⊢
    simp only [List.sum_cons, List.map_cons]
    rw [h2, h1]; rfl
theorem calm_law {xs : List (List Akt)} (hc : Calm xs) (ps : List Int) : ((runM xs ps).1.length : Int) = min (total xs) (ps.length : Int) := by
  have h1 := left_sum xs ps
  have h2 := sum_nn _ (left_nn xs ps)
  obtain ⟨r, h3, h4⟩ := followM_notes xs ps (st0 xs)
  have h5 : ((runM xs ps).1.length) ≤ ps.length := by show (followM xs ps (st0 xs)).1.length ≤ _; rw [h3]; simpa [st0] using h4
  rcases followM_all xs ps (st0 xs) with h | h
  · have : (runM xs ps).1.length = ps.length := by show (followM xs ps (st0 xs)).1.length = _; rw [h]; simp [st0]
    omega
  · have h6 := sum_full xs _ (fit_follow xs ps).len (stuck_end hc (fit_follow xs ps) (calm_follow hc ps) h)
    rw [done_sum] at h6
    have : ((runM xs ps).1.length : Int) = total xs := h6
    omega
theorem ends_law {xs : List (List Akt)} (hc : Calm xs) (ps : List Int) (hp : (ps.length : Int) = total xs) : (∀ x ∈ (runM xs ps).2, x = 0) ∧ (runM xs ps).1.length = ps.length := by
  have h1 := calm_law hc ps
  have h2 := left_sum xs ps
  exact ⟨sum_none _ (left_nn xs ps) (by omega), by omega⟩
theorem simS_free {a : Akt} (h : a.1 ≠ 1) (s : Bool × Int) : ∃ e, simS a s = some e := by
  unfold simS
  rw [if_neg h]
  split <;> exact ⟨_, rfl⟩
theorem simM_free : ∀ (l : List Akt) (s : Bool × Int), (∀ a ∈ l, a.1 ≠ 1) → (simM l s).isSome = true
  | [], s, _ => rfl
  | a :: l, s, h => by
    obtain ⟨e, he⟩ := simS_free (h a (List.mem_cons_self ..)) s
    show ((simS a s).bind (simM l)).isSome = true
    rw [he]; exact simM_free l e fun b hb => h b (List.mem_cons_of_mem _ hb)

/-! ### No lock is taken that another holds -/
def manyM (ns : List Nt) (t : Int) : Nat := (ns.filter (fun n => n.1 == t)).length
def freeM (ns : List Nt) (k : Nat) (nk : Nt) : Bool := (ns.drop (k + 1)).any (fun n => n.1 == nk.1 && n.2.1 == 2 && n.2.2 == nk.2.2)
theorem manyM_snoc (ns : List Nt) (n : Nt) (t : Int) : manyM (ns ++ [n]) t = if n.1 = t then manyM ns t + 1 else manyM ns t := by
  unfold manyM
  rw [List.filter_append, List.length_append]
  by_cases h : n.1 = t
  · rw [if_pos h]; simp [h]
  · rw [if_neg h]; simp [h]
theorem freeM_snoc (ns : List Nt) (n : Nt) (k : Nat) (nk : Nt) : freeM (ns ++ [n]) k nk = if k < ns.length then freeM ns k nk || (n.1 == nk.1 && n.2.1 == 2 && n.2.2 == nk.2.2) else false := by
  unfold freeM
  by_cases h : k < ns.length
  · rw [if_pos h, List.drop_append_of_le_length (by omega), List.any_append]; simp
  · rw [if_neg h, List.drop_eq_nil_of_le (by simp; omega)]; rfl
/-- Whoever took a lock, did not give it back since, and has an act left, holds it. -/
def HoldsAll (xs : List (List Akt)) (s : Fo) : Prop := ∀ (k : Nat) (nk : Nt), s.1[k]? = some nk → nk.2.1 = 1 → freeM s.1 k nk = false → manyM s.1 nk.1 < (xs.getD nk.1.toNat []).length → (nk.2.2, nk.1) ∈ s.2.1
def Counts (xs : List (List Akt)) (s : Fo) : Prop := (∀ i, i < xs.length → s.2.2.getD i 0 = (manyM s.1 (i : Int) : Int)) ∧ ∀ n ∈ s.1, 0 ≤ n.1 ∧ n.1 < (xs.length : Int)
def Locks (xs : List (List Akt)) (ns : List Nt) : Prop := ∀ (i k : Nat) (ni nk : Nt), ns[i]? = some ni → ns[k]? = some nk → k < i → ni.2.1 = 1 → nk.2.1 = 1 → nk.2.2 = ni.2.2 → nk.1 ≠ ni.1 →
  freeM (ns.take i) k nk = false → manyM (ns.take i) nk.1 < (xs.getD nk.1.toNat []).length → False
theorem get_snoc {α : Type} {l : List α} {x y : α} {k : Nat} (h : (l ++ [x])[k]? = some y) : (k < l.length ∧ l[k]? = some y) ∨ (k = l.length ∧ y = x) := by
  by_cases hk : k < l.length
  · rw [List.getElem?_append_left hk] at h; exact .inl ⟨hk, h⟩
  · have hk2 : k < (l ++ [x]).length := (List.getElem?_eq_some_iff.1 h).1
    simp at hk2
    have : k = l.length := by omega
    subst this
    rw [List.getElem?_append_right (Nat.le_refl _)] at h
    simp at h
    exact .inr ⟨rfl, h.symm⟩
theorem locks_turn {xs : List (List Akt)} {s : Fo} {who : Nat} (hf : Fit xs s) (hc : Counts xs s) (hh : HoldsAll xs s) (hl : Locks xs s.1) (hw : who < xs.length) (ha : ableAt s.2.2 s.2.1 who (xs.getD who []) = true) :
    Counts xs (turnM xs s who) ∧ HoldsAll xs (turnM xs s who) ∧ Locks xs (turnM xs s who).1 := by
  obtain ⟨d, h1, h2, h3, h4, h5⟩ := able_at hf hw ha
  have hdl := (List.getElem?_eq_some_iff.1 h1).1
  have hm : manyM s.1 (who : Int) = d := by have := hc.1 who hw; omega
  have e1 : (turnM xs s who).1 = s.1 ++ [((who : Int), (nextA xs s who).1, (nextA xs s who).2)] := rfl
  refine ⟨⟨fun i hi => ?_, fun n hn => ?_⟩, fun k nk hk hk1 hfr hma => ?_, ?_⟩
  · rw [turn_done h2, e1, manyM_snoc, List.getD_eq_getElem?_getD]
    by_cases e : i = who
    · subst e
      rw [List.getElem?_set_self hdl, if_pos rfl, hm]; simp
    · rw [List.getElem?_set_ne (fun h => e h.symm), ← List.getD_eq_getElem?_getD, if_neg (by simp only; omega)]
      exact hc.1 i hi
  · rw [e1] at hn
    rcases List.mem_append.1 hn with hn | hn
    · exact hc.2 n hn
    · rw [List.mem_singleton] at hn; subst hn; exact ⟨by simp only; omega, by simp only; omega⟩
  · rw [e1] at hk hfr hma
    show _ ∈ behindM s.2.1 ((who : Int), (nextA xs s who).1, (nextA xs s who).2) (s.2.2.getD who 0 + 1 == ((xs.getD who []).length : Int))
    rw [h2]
    rw [manyM_snoc] at hma
    rw [freeM_snoc] at hfr
    rcases get_snoc hk with ⟨hkl, hk⟩ | ⟨rfl, rfl⟩
    · rw [if_pos hkl, Bool.or_eq_false_iff] at hfr
      have hold : (nk.2.2, nk.1) ∈ s.2.1 := hh k nk hk hk1 hfr.1 (by split at hma <;> omega)
      by_cases e : nk.1 = (who : Int)
      · rw [if_pos e.symm, e, hm] at hma
        simp only [Int.toNat_natCast] at hma
        rw [e] at hold ⊢
        unfold behindM
        rw [if_neg (fun hb => by have hb := eq_of_beq hb; omega)]
        split
        · exact List.mem_append_left _ hold
        · split
          · rename_i hk2
            have hfr2 := hfr.2
            simp only [e, beq_self_eq_true, Bool.true_and] at hfr2
            refine List.mem_filter.2 ⟨hold, ?_⟩
            have hk2' : (nextA xs s who).1 = 2 := hk2
            rw [hk2'] at hfr2
            simp only [beq_self_eq_true, Bool.true_and, beq_eq_false_iff_ne, ne_eq] at hfr2
            simp only [Bool.not_eq_true', decide_eq_false_iff_not, Prod.mk.injEq, and_true]
            exact fun h => hfr2 h.symm
          · exact hold
      · exact behind_stay hold e
    · rw [if_pos rfl, hm] at hma
      simp only [Int.toNat_natCast] at hma
      unfold behindM
      rw [if_neg (fun hb => by have hb := eq_of_beq hb; omega)]
      by_cases hx : ((nextA xs s who).2, (who : Int)) ∈ s.2.1
      · rw [if_neg (fun h => h.2 hx), if_neg (by intro h; simp only at h hk1; omega)]
        exact hx
      · rw [if_pos ⟨hk1, hx⟩]
        exact List.mem_append_right _ (by simp)
  · rw [e1]
    intro i k ni nk hi hk hki hi1 hk1 hN hT hfr hma
    have hil : i ≤ s.1.length := by have := (List.getElem?_eq_some_iff.1 hi).1; simp at this; omega
    rw [List.take_append_of_le_length hil] at hfr hma
    rcases get_snoc hk with ⟨hkl, hk⟩ | ⟨rfl, rfl⟩
    · rcases get_snoc hi with ⟨hil2, hi⟩ | ⟨rfl, rfl⟩
      · exact hl i k ni nk hi hk hki hi1 hk1 hN hT hfr hma
      · rw [List.take_length] at hfr hma
        exact hT (h5 hi1 _ (hh k nk hk hk1 hfr hma) hN)
    · omega
theorem locks_law (xs : List (List Akt)) (ps : List Int) : Locks xs (runM xs ps).1 ∧ ∀ n ∈ (runM xs ps).1, 0 ≤ n.1 ∧ n.1 < (xs.length : Int) := by
  have := followM_inv (xs := xs) (fun s => Fit xs s ∧ Counts xs s ∧ HoldsAll xs s ∧ Locks xs s.1) (fun s who h hw ha => ⟨h.1.turn hw ha, locks_turn h.1 h.2.1 h.2.2.1 h.2.2.2 hw ha⟩) ps (st0 xs)
    ⟨Fit.start xs, ⟨fun i hi => by simp [st0, manyM, hi], fun n hn => by simp [st0] at hn⟩, fun k nk hk => by simp [st0] at hk, fun i k ni nk hi => by simp [st0] at hi⟩
  exact ⟨this.2.2.2, this.2.1.2⟩

/-! ### The document's answer -/
def withoutM (l : List Ho) (th lk : Int) (all : Bool) : List Ho := l.filter (fun h => h.2 != th || (h.1 != lk && !all))
def heldR1 (l : List Ho) (x : Nt) : List Ho := if x.2.1 == 1 || x.2.1 == 2 then withoutM l x.1 x.2.2 false else l
def heldR2 (l : List Ho) (x : Nt) : List Ho := if x.2.1 == 1 then heldR1 l x ++ [(x.2.2, x.1)] else heldR1 l x
def heldR (l : List Ho) (x : Nt) (last : Bool) : List Ho := if last then withoutM (heldR2 l x) x.1 0 true else heldR2 l x
def turnR (xs : List (List Akt)) (s : Fo) (who : Nat) : Fo :=
  (s.1 ++ [((who : Int), (nextA xs s who).1, (nextA xs s who).2)],
   heldR s.2.1 ((who : Int), (nextA xs s who).1, (nextA xs s who).2) (s.2.2.getD who 0 + 1 == ((xs.getD who []).length : Int)), s.2.2.set who (s.2.2.getD who 0 + 1))
def followR (xs : List (List Akt)) : List Int → Fo → Fo
  | [], s => s
  | p :: ps, s => if (ableM xs s.2.2 s.2.1).length = 0 then s else followR xs ps (turnR xs s (whoM xs s p))
theorem followR_cons (xs : List (List Akt)) (p : Int) (ps : List Int) (s : Fo) : followR xs (p :: ps) s = if (ableM xs s.2.2 s.2.1).length = 0 then s else followR xs ps (turnR xs s (whoM xs s p)) := rfl
def Alike (s t : Fo) : Prop := s.1 = t.1 ∧ s.2.2 = t.2.2 ∧ ∀ h, h ∈ s.2.1 ↔ h ∈ t.2.1
theorem any_alike {a b : List Ho} (h : ∀ x, x ∈ a ↔ x ∈ b) (p : Ho → Bool) : a.any p = b.any p := by
  rw [Bool.eq_iff_iff, List.any_eq_true, List.any_eq_true]
  exact ⟨fun ⟨x, hx, hp⟩ => ⟨x, (h x).1 hx, hp⟩, fun ⟨x, hx, hp⟩ => ⟨x, (h x).2 hx, hp⟩⟩
theorem able_alike {xs : List (List Akt)} {s t : Fo} (h : Alike s t) : ableM xs s.2.2 s.2.1 = ableM xs t.2.2 t.2.1 := by
  unfold ableM ableTo
  rw [h.2.1]
  congr 1
  apply List.filter_congr
  intro i _
  unfold ableAt
  split
  · rfl
  · rw [any_alike h.2.2]
theorem held_alike {a b : List Ho} (h : ∀ x, x ∈ a ↔ x ∈ b) (x : Nt) (last : Bool) : ∀ y, y ∈ behindM a x last ↔ y ∈ heldR b x last := by
  intro y
  have h2 : ¬ last = true → (y ∈ behindM a x last ↔ y ∈ heldR2 b x) := by
    intro hl
    unfold behindM heldR2 heldR1 withoutM keepM
    rw [if_neg hl]
    by_cases h1 : x.2.1 = 1
    · simp only [h1, beq_self_eq_true, Bool.true_or, if_true, true_and]
      by_cases hm : (x.2.2, x.1) ∈ a
      · rw [if_neg (fun hn => hn hm), if_neg (by omega)]
        simp only [List.mem_append, List.mem_filter, Bool.not_false, Bool.and_true, Bool.or_eq_true, bne_iff_ne, ne_eq, List.mem_singleton, ← h y]
        constructor
        · intro hy
          by_cases e : y = (x.2.2, x.1)
          · exact .inr e
          · refine .inl ⟨hy, ?_⟩
            by_cases e2 : y.2 = x.1
            · exact .inr fun e1 => e (Prod.ext e1 e2)
            · exact .inl e2
        · rintro (⟨hy, _⟩ | rfl)
          · exact hy
          · exact hm
      · rw [if_pos hm]
        simp only [List.mem_append, List.mem_filter, Bool.not_false, Bool.and_true, Bool.or_eq_true, bne_iff_ne, ne_eq, List.mem_singleton, ← h y]
        constructor
        · rintro (hy | rfl)
          · refine .inl ⟨hy, ?_⟩
            by_cases e2 : y.2 = x.1
            · exact .inr fun e1 => hm (by rw [← e1, ← e2]; exact hy)
            · exact .inl e2
          · exact .inr rfl
        · rintro (⟨hy, _⟩ | rfl)
          · exact .inl hy
          · exact .inr rfl
    · rw [if_neg (fun hn => h1 hn.1)]
      have h1' : (x.2.1 == 1) = false := by simpa using h1
      rw [h1', Bool.false_or]
      by_cases h2 : x.2.1 = 2
      · rw [if_pos h2, h2]
        simp only [beq_self_eq_true, if_true, List.mem_filter, Bool.not_false, Bool.and_true, Bool.or_eq_true, bne_iff_ne, ne_eq, Bool.not_eq_true', decide_eq_false_iff_not, ← h y, Bool.false_eq_true, if_false]
        refine and_congr_right fun _ => ⟨fun hn => ?_, fun hn e => ?_⟩
        · by_cases e2 : y.2 = x.1
          · exact .inr fun e1 => hn (Prod.ext e1 e2)
          · exact .inl e2
        · subst e; rcases hn with hn | hn <;> exact hn rfl
      · rw [if_neg h2, show (x.2.1 == 2) = false by simpa using h2]
        simp only [Bool.false_eq_true, if_false]
        exact h y
  by_cases hl : last = true
  · unfold heldR
    rw [if_pos hl]
    unfold behindM withoutM keepM
    rw [if_pos hl]
    simp only [List.mem_filter, Bool.not_true, Bool.and_false, Bool.or_false, bne_iff_ne, ne_eq, Bool.not_eq_true', beq_eq_false_iff_ne, h y]
    refine and_congr_left fun hn => ?_
    unfold heldR2 heldR1 withoutM
    constructor
    · intro hy
      have : y ∈ (if (x.2.1 == 1 || x.2.1 == 2) = true then List.filter (fun h => h.2 != x.1 || (h.1 != x.2.2 && !false)) b else b) := by
        split
        · exact List.mem_filter.2 ⟨hy, by simp [hn]⟩
        · exact hy
      split
      · exact List.mem_append_left _ this
      · exact this
    · intro hy
      have : y ∈ (if (x.2.1 == 1 || x.2.1 == 2) = true then List.filter (fun h => h.2 != x.1 || (h.1 != x.2.2 && !false)) b else b) := by
        split at hy
        · rcases List.mem_append.1 hy with hy | hy
          · exact hy
          · rw [List.mem_singleton] at hy; subst hy; exact absurd rfl hn
        · exact hy
      split at this
      · exact (List.mem_filter.1 this).1
      · exact this
  · rw [h2 hl]
    unfold heldR
    rw [if_neg hl]
theorem turn_alike {xs : List (List Akt)} {s t : Fo} (h : Alike s t) (who : Nat) : Alike (turnM xs s who) (turnR xs t who) := by
  have hn : nextA xs s who = nextA xs t who := by unfold nextA; rw [h.2.1]
  unfold turnM turnR
  rw [hn, h.1, h.2.1]
  exact ⟨rfl, rfl, held_alike h.2.2 _ _⟩
theorem follow_alike (xs : List (List Akt)) : ∀ (ps : List Int) {s t : Fo}, Alike s t → Alike (followM xs ps s) (followR xs ps t)
  | [], s, t, h => h
  | p :: ps, s, t, h => by
    rw [followM_cons, followR_cons, able_alike h]
    split
    · exact h
    · have hw : whoM xs s p = whoM xs t p := by unfold whoM; rw [able_alike h]
      rw [hw]
      exact follow_alike xs ps (turn_alike h _)
def runR (xs : List (List Akt)) (picks : List Int) : List Nt × List Int := ((followR xs picks (st0 xs)).1, leftM xs (followR xs picks (st0 xs)).2.2)
theorem run_alike (xs : List (List Akt)) (ps : List Int) : runM xs ps = runR xs ps := by
  have h : Alike (followM xs ps (st0 xs)) (followR xs ps (st0 xs)) := follow_alike xs ps ⟨rfl, rfl, fun _ => Iff.rfl⟩
  unfold runM runR
  rw [show ([], [], List.replicate xs.length 0) = st0 xs from rfl, h.1, h.2.1]
/-- How the document names the place that a pick means. -/
theorem placeM_alt {p n : Int} (h : 0 < n) : placeM p n = if p.tmod n < 0 then p.tmod n + n else p.tmod n := by
  have h1 : -n < p.tmod n := by have := Int.lt_tmod_of_pos p h; omega
  have h2 := Int.tmod_lt_of_pos p h
  unfold placeM
  split
  · rw [Int.tmod_eq_of_lt (by omega) (by omega)]
  · rw [Int.tmod_eq_emod_of_nonneg (by omega), Int.add_emod_right, Int.emod_eq_of_lt (by omega) h2]
theorem runM_len {xs : List (List Akt)} {ps : List Int} {ns : List Nt} {lf : List Int} (h : runM xs ps = (ns, lf)) : ns.length ≤ ps.length ∧ lf.length = xs.length := by
  obtain ⟨r, h1, h2⟩ := followM_notes xs ps (st0 xs)
  have e1 : ns = (followM xs ps (st0 xs)).1 := (congrArg Prod.fst h).symm
  have e2 : lf = leftM xs (followM xs ps (st0 xs)).2.2 := (congrArg Prod.snd h).symm
  exact ⟨by rw [e1, h1]; simpa [st0] using h2, by rw [e2]; simp [leftM]⟩
end Go.Proofs.Ytnmhgfeglfcbgaa
