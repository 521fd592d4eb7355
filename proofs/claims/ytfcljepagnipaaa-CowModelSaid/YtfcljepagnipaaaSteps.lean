/-
  Proved here: plain laws of arenas, with no program in sight: what a row of changes, each from the one ahead, leaves.
-/
import Derived.Test.YtfcljepagnipaaaGood
namespace Go.Proofs.Ytfcljepagnipaaa

/-- A change: taken out, or not; the key; the value. -/
abbrev Cg := Bool × Int × Int
def lastS (key : Int) (o : Option Int) (s : Cg) : Option Int := if s.2.1 = key then (if s.1 then none else some s.2.2) else o
def lastM (l : List Cg) (key : Int) : Option Int := l.foldl (lastS key) none
def modS (s : Ar × Int) (x : Cg) : Ar × Int := if x.1 then delM s.1 s.2 x.2.1 else setM s.1 s.2 x.2.1 x.2.2
def stM (l : List Cg) (k : Nat) : Ar × Int := (l.take k).foldl modS ([], -1)
def rootsM (l : List Cg) (k : Nat) : List Int := (List.range (k + 1)).map (fun i => (stM l i).2)
theorem stM_succ {l : List Cg} {k : Nat} {x : Cg} (h : l[k]? = some x) : stM l (k + 1) = modS (stM l k) x := by
  unfold stM; rw [List.take_add_one, h, List.foldl_append]; rfl
theorem lastM_succ {l : List Cg} {k : Nat} {x : Cg} (key : Int) (h : l[k]? = some x) : lastM (l.take (k + 1)) key = lastS key (lastM (l.take k) key) x := by
  unfold lastM; rw [List.take_add_one, h, List.foldl_append]; rfl
theorem rootsM_succ (l : List Cg) (k : Nat) : rootsM l (k + 1) = rootsM l k ++ [(stM l (k + 1)).2] := by
  unfold rootsM; rw [List.range_succ, List.map_append]; rfl
theorem rootsM_len (l : List Cg) (k : Nat) : (rootsM l k).length = k + 1 := by unfold rootsM; simp
theorem rootsM_get (l : List Cg) {k i : Nat} (h : i ≤ k) : (rootsM l k)[i]? = some (stM l i).2 := by
  unfold rootsM; rw [List.getElem?_map, List.getElem?_range (by omega)]; rfl

structure StOk (l : List Cg) (a : Ar) (i : Nat) : Prop where
  lt : (stM l i).2 < (a.length : Int)
  get : ∀ key, getI a (stM l i).2 key = lastM (l.take i) key
  good : Good a 16 (placeM a.length (stM l i).2)
theorem stok_ext {l : List Cg} {a x : Ar} {i : Nat} (h : StOk l a i) : StOk l (a ++ x) i := by
  refine ⟨by have := h.lt; rw [List.length_append]; omega, fun key => by rw [getI_ext h.lt]; exact h.get key, ?_⟩
  rw [placeM_mono h.lt (by simp)]
  exact good_ext (fun q hq => (placeM_lt hq).1) h.good
theorem pl_lt' {q : Option Nat} {n : Nat} (h : ∀ p, q = some p → p < n) : pl q < (n : Int) := by
  cases q with
  | none => simp only [pl]; omega
  | some p => have := h p rfl; simp only [pl]; omega
theorem stok {l : List Cg} (hk : ∀ s ∈ l, 0 ≤ s.2.1 ∧ s.2.1 ≤ 65535) : ∀ k, k ≤ l.length → (stM l k).1.length ≤ 17 * k ∧ ∀ i, i ≤ k → StOk l (stM l k).1 i
  | 0, _ => by
    refine ⟨by simp [stM], fun i hi => ?_⟩
    have : i = 0 := by omega
    subst this
    refine ⟨by simp [stM], fun key => ?_, ?_⟩
    · show getI [] (-1) key = none
      unfold getI
      split
      · rw [getM_root, show placeM ([] : Ar).length (-1) = none from rfl, viewM_none]
      · rfl
    · exact good_none _ _
  | k + 1, hkl => by
    obtain ⟨ih1, ih2⟩ := stok hk k (by omega)
    obtain ⟨x, hx⟩ : ∃ x, l[k]? = some x := ⟨_, List.getElem?_eq_getElem (by omega)⟩
    have hkx := hk x (List.mem_of_getElem? hx)
    have hst := stM_succ hx
    have hlast := fun key => lastM_succ key hx
    have hlk := ih2 k (Nat.le_refl _)
    cases hd : x.1 with
    | true =>
      have hm : modS (stM l k) x = delM (stM l k).1 (stM l k).2 x.2.1 := by unfold modS; rw [if_pos hd]
      rw [hm] at hst
      obtain ⟨y, hy, hyl⟩ := del_ext (stM l k).1 (stM l k).2 x.2.1
      rw [hst]
      refine ⟨by rw [hy, List.length_append]; omega, fun i hi => ?_⟩
      rcases Nat.lt_or_ge i (k + 1) with h | h
      · rw [hy]; exact stok_ext (ih2 i (by omega))
      · have : i = k + 1 := by omega
        subst this
        have hls : ∀ key, lastM (l.take (k + 1)) key = if key = x.2.1 then none else lastM (l.take k) key := by
          intro key
          rw [hlast, lastS, hd]
          by_cases e : x.2.1 = key
          · rw [if_pos e, if_pos e.symm]; rfl
          · rw [if_neg e, if_neg (fun h => e h.symm)]
        by_cases hg : (getI (stM l k).1 (stM l k).2 x.2.1).isSome = true
        · obtain ⟨z, q, h1, h2, _, h4⟩ := del_law hg
          refine ⟨by rw [hst, h1]; exact pl_lt' h2, fun key => ?_, ?_⟩
          · rw [hst, h1]
            simp only
            rw [h4, hls, hlk.get]
          · rw [hst]; exact del_good hlk.good
        · rw [del_no hg]
          have h2 : (stM l (k + 1)).2 = (stM l k).2 := by rw [hst, del_no hg]
          refine ⟨by rw [h2]; exact hlk.lt, fun key => ?_, by rw [h2]; exact hlk.good⟩
          rw [h2, hls, hlk.get]
          by_cases e : key = x.2.1
          · rw [if_pos e, e]
            have := hlk.get x.2.1
            rw [← this]
            simpa using hg
          · rw [if_neg e]
    | false =>
      have hm : modS (stM l k) x = setM (stM l k).1 (stM l k).2 x.2.1 x.2.2 := by unfold modS; rw [if_neg (by rw [hd]; simp)]
      rw [hm] at hst
      obtain ⟨z, q, h1, h2, h3, _, h5⟩ := set_law (a := (stM l k).1) (r := (stM l k).2) (val := x.2.2) (key := x.2.1) (by omega)
      rw [hst]
      refine ⟨by rw [h1, List.length_append]; omega, fun i hi => ?_⟩
      rcases Nat.lt_or_ge i (k + 1) with h | h
      · rw [h1]; exact stok_ext (ih2 i (by omega))
      · have : i = k + 1 := by omega
        subst this
        refine ⟨by rw [hst, h1]; exact pl_lt' h2, fun key => ?_, ?_⟩
        · rw [hst, h1]
          simp only
          rw [h5, hlast, lastS, hd, hlk.get]
          by_cases e : x.2.1 = key
          · rw [if_pos e, if_pos e.symm]; rfl
          · rw [if_neg e, if_neg (fun h => e h.symm)]
        · rw [hst]; exact set_good hlk.good

/-! ### How many keys have something -/
def firstM (l : List Cg) (k : Nat) : Bool := (l.take k).all (fun s => !decide (s.2.1 = ((l[k]?).getD (false, 0, 0)).2.1))
theorem last_mem {l : List Cg} {key : Int} : (lastM l key).isSome = true → ∃ s ∈ l, s.2.1 = key := by
  suffices h : ∀ (l : List Cg) (o : Option Int), (l.foldl (lastS key) o).isSome = true → o.isSome = true ∨ ∃ s ∈ l, s.2.1 = key by
    intro hl
    rcases h l none hl with h | h
    · cases h
    · exact h
  intro l
  induction l with
  | nil => intro o h; exact .inl h
  | cons s r ih =>
    intro o h
    rw [List.foldl_cons] at h
    rcases ih _ h with h | ⟨s', h1, h2⟩
    · unfold lastS at h
      by_cases e : s.2.1 = key
      · exact .inr ⟨s, List.mem_cons_self .., e⟩
      · rw [if_neg e] at h; exact .inl h
    · exact .inr ⟨s', List.mem_cons_of_mem _ h1, h2⟩
/-- The first step of a key. -/
theorem first_at {l : List Cg} {key : Int} (h : ∃ s ∈ l, s.2.1 = key) : ∃ k x, l[k]? = some x ∧ x.2.1 = key ∧ firstM l k = true := by
  cases hf : l.findIdx? (fun s => decide (s.2.1 = key)) with
  | none =>
    rw [List.findIdx?_eq_none_iff] at hf
    obtain ⟨s, hs, e⟩ := h
    have := hf s hs
    simp [e] at this
  | some k =>
    rw [List.findIdx?_eq_some_iff_getElem] at hf
    obtain ⟨hk, h1, h2⟩ := hf
    refine ⟨k, l[k], List.getElem?_eq_getElem hk, by simpa using h1, ?_⟩
    unfold firstM
    rw [List.getElem?_eq_getElem hk, List.all_eq_true]
    intro s hs
    obtain ⟨j, hj, rfl⟩ := List.getElem_of_mem hs
    rw [List.length_take] at hj
    rw [List.getElem_take]
    have := h2 j (by omega)
    have hk1 : l[k].2.1 = key := by simpa using h1
    simp only [Option.getD_some, hk1]
    simpa using this
def hasM (l : List Cg) (i k : Nat) : Bool := (lastM (l.take i) ((l[k]?).getD (false, 0, 0)).2.1).isSome && firstM l k
def manyM (l : List Cg) (i m : Nat) : Nat := ((List.range m).filter (hasM l i)).length
theorem manyM_succ (l : List Cg) (i m : Nat) : manyM l i (m + 1) = manyM l i m + (if hasM l i m then 1 else 0) := by
  unfold manyM
  rw [List.range_succ, List.filter_append, List.length_append, List.filter_cons, List.filter_nil]
  cases hasM l i m <;> rfl
theorem manyM_le (l : List Cg) (i m : Nat) : manyM l i m ≤ m := by
  unfold manyM
  have := List.length_filter_le (hasM l i) (List.range m)
  rw [List.length_range] at this
  exact this
theorem nodup_map {l : List Nat} {g : Nat → Nat} (hn : l.Pairwise (fun a b => a < b)) (h : ∀ a ∈ l, ∀ b ∈ l, a < b → g a ≠ g b) : (l.map g).Pairwise (fun a b => a ≠ b) := by
  induction l with
  | nil => exact List.Pairwise.nil
  | cons x r ih =>
    have hp := List.pairwise_cons.1 hn
    rw [List.map_cons]
    refine List.pairwise_cons.2 ⟨fun y hy => ?_, ih hp.2 (fun a ha b hb => h a (List.mem_cons_of_mem _ ha) b (List.mem_cons_of_mem _ hb))⟩
    obtain ⟨b, hb, rfl⟩ := List.mem_map.1 hy
    exact h x (List.mem_cons_self ..) b (List.mem_cons_of_mem _ hb) (hp.1 b hb)
theorem keys_many {l : List Cg} (hk : ∀ s ∈ l, 0 ≤ s.2.1 ∧ s.2.1 ≤ 65535) {a : Ar} {i : Nat} (h : StOk l a i) : (keysM a (stM l i).2).length = manyM l i l.length := by
  have hsome : ∀ k : Nat, k < 65536 → ((getM a (stM l i).2 k).isSome = true ↔ (lastM (l.take i) (k : Int)).isSome = true) := by
    intro k hk
    have := h.get (k : Int)
    rw [getI_in rfl hk] at this
    rw [this]
  let g : Nat → Nat := fun k => ((l[k]?).getD (false, 0, 0)).2.1.toNat
  have hkey : ∀ k, k < l.length → 0 ≤ ((l[k]?).getD (false, 0, 0)).2.1 ∧ ((l[k]?).getD (false, 0, 0)).2.1 ≤ 65535 := by
    intro k hkl
    rw [List.getElem?_eq_getElem hkl]
    exact hk _ (List.getElem_mem hkl)
  have hD : (((List.range l.length).filter (hasM l i)).map g).length = manyM l i l.length := by rw [List.length_map]; rfl
  rw [← hD]
  apply Nat.le_antisymm
  · refine nodup_le ((range_nodup 65536).filter _) (fun k hkm => ?_)
    obtain ⟨hk1, hk2⟩ := List.mem_filter.1 hkm
    have hk1 := List.mem_range.1 hk1
    have hl := (hsome k hk1).1 hk2
    obtain ⟨s, hs, e⟩ := last_mem hl
    obtain ⟨j, x, hj, hx, hf⟩ := first_at (l := l) ⟨s, List.mem_of_mem_take hs, e⟩
    have hjl : j < l.length := (List.getElem?_eq_some_iff.1 hj).1
    refine List.mem_map.2 ⟨j, List.mem_filter.2 ⟨List.mem_range.2 hjl, ?_⟩, ?_⟩
    · unfold hasM
      rw [hj, Option.getD_some, hx, hl, hf]; rfl
    · show ((l[j]?).getD (false, 0, 0)).2.1.toNat = k
      rw [hj, Option.getD_some, hx, Int.toNat_natCast]
  · refine nodup_le (nodup_map ((List.pairwise_lt_range (n := l.length)).filter _) (fun p hp q hq hpq e => ?_)) (fun k hkm => ?_)
    · obtain ⟨hq1, hq2⟩ := List.mem_filter.1 hq
      have hq1 := List.mem_range.1 hq1
      have hfq : firstM l q = true := by unfold hasM at hq2; rw [Bool.and_eq_true] at hq2; exact hq2.2
      unfold firstM at hfq
      rw [List.all_eq_true] at hfq
      have hpm : l[p]'(by omega) ∈ l.take q := by
        rw [List.mem_take_iff_getElem]
        exact ⟨p, by omega, rfl⟩
      have := hfq _ hpm
      have hp0 := hkey p (by omega)
      have hq0 := hkey q hq1
      have e : ((l[p]?).getD (false, 0, 0)).2.1.toNat = ((l[q]?).getD (false, 0, 0)).2.1.toNat := e
      have e2 : ((l[p]?).getD (false, 0, 0)).2.1 = ((l[q]?).getD (false, 0, 0)).2.1 := by omega
      rw [List.getElem?_eq_getElem (show p < l.length by omega), Option.getD_some] at e2
      simp [e2] at this
    · obtain ⟨j, hj, rfl⟩ := List.mem_map.1 hkm
      obtain ⟨hj1, hj2⟩ := List.mem_filter.1 hj
      have hj1 := List.mem_range.1 hj1
      have hk0 := hkey j hj1
      have hlt : g j < 65536 := by show ((l[j]?).getD (false, 0, 0)).2.1.toNat < 65536; omega
      have hcast : ((g j : Nat) : Int) = ((l[j]?).getD (false, 0, 0)).2.1 := by show ((((l[j]?).getD (false, 0, 0)).2.1.toNat : Nat) : Int) = _; omega
      unfold hasM at hj2
      rw [Bool.and_eq_true] at hj2
      refine List.mem_filter.2 ⟨List.mem_range.2 hlt, (hsome _ hlt).2 ?_⟩
      rw [hcast]; exact hj2.1
end Go.Proofs.Ytfcljepagnipaaa
