/-
  Proved here: plain laws of arenas, with no program in sight: what is reached behind a change.
-/
import Derived.Test.YtfcljepagnipaaaLive
namespace Go.Proofs.Ytfcljepagnipaaa

structure Chg (a : Ar) (root : Int) (b : Ar) (r : Int) (N : Nat) : Prop where
  ext : ∃ x, b = a ++ x ∧ x.length ≤ N
  lt : r < (b.length : Int)
  new : ∀ p, placeM b.length r = some p → a.length ≤ p ∨ Reach a [root] p
  lead : ∀ p d q, a.length ≤ p → leadM b (some p) d = some q → a.length ≤ q ∨ Reach a [root] q
theorem chg_none {a : Ar} {root : Int} (h : root < (a.length : Int)) (N : Nat) : Chg a root a root N :=
  ⟨⟨[], by simp, by simp⟩, h, fun p hp => .inr ⟨root, by simp, p, hp, .here⟩, fun p d q hp hl => by have := leadM_lt hl; omega⟩
theorem pl_lt {q : Option Nat} {n : Nat} (h : ∀ p, q = some p → p < n) : pl q < (n : Int) := by
  cases q with
  | none => simp only [pl]; omega
  | some p => have := h p rfl; simp only [pl]; omega
theorem set_chg {a : Ar} {root : Int} (h : root < (a.length : Int)) (key val : Int) : Chg a root (setM a root key val).1 (setM a root key val).2 17 := by
  by_cases hk : 0 ≤ key ∧ key < 65536
  · obtain ⟨x, q, h1, h2, h3, _⟩ := set_law (a := a) (r := root) (val := val) hk
    obtain ⟨⟨q', h4, h5⟩, h6⟩ := climb_new a root key.toNat 16 (a ++ [(-1, -1, true, val)]) (some a.length) ⟨_, rfl⟩ (fun p hp => by cases hp; simp) (fun p d q hp hl => by
      have := leadM_lt hl
      have hpe : p = a.length := by simp at this; omega
      subst hpe
      rw [leadM_at (c := (-1, -1, true, val)) (by simp)] at hl
      have := (placeM_lt hl).2
      cases d <;> simp at this <;> omega)
    have hs : setM a root key val = climbM a root key.toNat 16 (a ++ [(-1, -1, true, val)]) (pl (some a.length)) := by unfold setM; rw [if_pos hk]; rfl
    rw [hs]
    refine ⟨⟨x, by rw [← hs, h1], by omega⟩, by rw [← hs, h1]; exact pl_lt h2, fun p hp => ?_, h6⟩
    rw [h4] at hp
    obtain ⟨_, hr⟩ := placeM_lt hp
    cases q' with
    | none => simp [pl] at hr
    | some p' =>
      have : p' = p := by simp only [pl] at hr; omega
      subst this
      exact .inl (h5 p' rfl)
  · rw [set_out hk]; exact chg_none h 17
theorem del_chg {a : Ar} {root : Int} (h : root < (a.length : Int)) (key : Int) : Chg a root (delM a root key).1 (delM a root key).2 16 := by
  by_cases hk : (getI a root key).isSome = true
  · obtain ⟨x, q, h1, h2, h3, _⟩ := del_law hk
    obtain ⟨⟨q', h4, h5⟩, h6⟩ := climb_new a root key.toNat 16 a none ⟨[], by simp⟩ (fun p hp => by cases hp) (fun p d q hp hl => by have := leadM_lt hl; omega)
    have hs : delM a root key = climbM a root key.toNat 16 a (pl none) := by unfold delM; rw [if_pos hk]; rfl
    rw [hs]
    refine ⟨⟨x, by rw [← hs, h1], by omega⟩, by rw [← hs, h1]; exact pl_lt h2, fun p hp => ?_, h6⟩
    rw [h4] at hp
    obtain ⟨_, hr⟩ := placeM_lt hp
    cases q' with
    | none => simp [pl] at hr
    | some p' =>
      have : p' = p := by simp only [pl] at hr; omega
      subst this
      exact .inl (h5 p' rfl)
  · rw [del_no hk]; exact chg_none h 16
theorem reach_mono {a : Ar} {roots roots' : List Int} (h : ∀ r ∈ roots, r ∈ roots') {p : Nat} (hp : Reach a roots p) : Reach a roots' p := by
  obtain ⟨r, h1, p0, h2, h3⟩ := hp
  exact ⟨r, h r h1, p0, h2, h3⟩
theorem reach_grow {a x : Ar} {roots roots' : List Int} (h : ∀ r ∈ roots, r ∈ roots') (hr : ∀ r ∈ roots, r < (a.length : Int)) {p : Nat} (hp : Reach a roots p) : Reach (a ++ x) roots' p := by
  obtain ⟨r, h1, p0, h2, h3⟩ := hp
  refine ⟨r, h r h1, p0, ?_, from_ext h3 (placeM_lt h2).1⟩
  rw [placeM_mono (hr r h1) (by simp)]; exact h2
theorem reach_chg {a : Ar} {root : Int} {b : Ar} {r : Int} {N : Nat} (hc : Chg a root b r N) {roots : List Int} (hroot : root ∈ roots) (hr : ∀ r ∈ roots, r < (a.length : Int)) {p : Nat} (hp : Reach b (roots ++ [r]) p) : a.length ≤ p ∨ Reach a roots p := by
  have hsub : ∀ q, Reach a [root] q → Reach a roots q := fun q h => reach_mono (by simpa using hroot) h
  obtain ⟨x, hx, _⟩ := hc.ext
  obtain ⟨y, h1, p0, h2, h3⟩ := hp
  -- where it starts
  have h0 : a.length ≤ p0 ∨ Reach a roots p0 := by
    rcases List.mem_append.1 h1 with h1 | h1
    · right
      rw [hx, placeM_mono (hr y h1) (by simp)] at h2
      exact ⟨y, h1, p0, h2, .here⟩
    · have : y = r := by simpa using h1
      subst this
      exact (hc.new p0 h2).imp id (hsub p0)
  clear h1 h2
  induction h3 with
  | here => exact h0
  | step d h4 h5 ih =>
    rcases ih with ih | ih
    · exact (hc.lead _ d _ ih h5).imp id (hsub _)
    · right
      rw [hx, leadM_ext (fun q hq => by cases hq; exact reach_lt ih)] at h5
      exact reach_iff.2 (.inr ⟨_, d, ih, h5⟩)
theorem chg_live {a : Ar} {root : Int} {b : Ar} {r : Int} {N : Nat} (hc : Chg a root b r N) {roots : List Int} (hroot : root ∈ roots) (hr : ∀ r ∈ roots, r < (a.length : Int)) {n m : Nat} (hn : LiveIs a roots n) (hm : LiveIs b (roots ++ [r]) m) : n ≤ m ∧ m ≤ n + N := by
  obtain ⟨x, rfl, hx⟩ := hc.ext
  refine ⟨live_le hn hm (fun p hp => reach_grow (fun r h => List.mem_append_left _ h) hr hp), ?_⟩
  have := live_more hn hm (fun p hp h => (reach_chg hc hroot hr h).resolve_left (by omega))
  omega
theorem live_roots {a : Ar} {roots roots' : List Int} {n m : Nat} (h : LiveIs a roots n) (h' : LiveIs a roots' m) (hs : ∀ r ∈ roots, r ∈ roots') : n ≤ m := by
  have h2 : LiveIs (a ++ []) roots' m := by rw [List.append_nil]; exact h'
  exact live_le h h2 (fun p hp => by rw [List.append_nil]; exact reach_mono hs hp)
theorem live_zero {a : Ar} {n : Nat} (h : LiveIs a [] n) : n = 0 := by
  obtain ⟨f, hf, rfl⟩ := h
  have : (List.range a.length).filter f = [] := by
    rw [List.filter_eq_nil_iff]
    intro p _ hp
    obtain ⟨r, hr, _⟩ := (hf p).1 hp
    cases hr
  rw [this]; rfl
end Go.Proofs.Ytfcljepagnipaaa
