/-
  Proved here: plain laws of arenas, with no program in sight: an arena that changes alone have made leads nowhere in vain.
-/
import Derived.Test.YtfcljepagnipaaaLaws
namespace Go.Proofs.Ytfcljepagnipaaa

/-- So many bits above the leaves: whatever is led to, something hangs below it. -/
def Good (a : Ar) : Nat → Option Nat → Prop
  | 0, p => match p with
    | none => True
    | some p => (valM a (some p)).isSome = true ∧ leadM a (some p) false = none ∧ leadM a (some p) true = none
  | m + 1, p => match p with
    | none => True
    | some p => Good a m (leadM a (some p) false) ∧ Good a m (leadM a (some p) true) ∧ ¬ (leadM a (some p) false = none ∧ leadM a (some p) true = none)
theorem good_none (a : Ar) : ∀ m, Good a m none
  | 0 => trivial
  | _ + 1 => trivial
theorem good_ext {a x : Ar} : ∀ {m : Nat} {p : Option Nat}, (∀ q, p = some q → q < a.length) → Good a m p → Good (a ++ x) m p
  | _, none, _, _ => good_none _ _
  | 0, some p, hp, h => by
    have he : ∀ b, leadM (a ++ x) (some p) b = leadM a (some p) b := fun b => leadM_ext hp b
    exact ⟨by rw [valM_ext hp]; exact h.1, by rw [he]; exact h.2.1, by rw [he]; exact h.2.2⟩
  | m + 1, some p, hp, h => by
    have he : ∀ b, leadM (a ++ x) (some p) b = leadM a (some p) b := fun b => leadM_ext hp b
    have hl : ∀ b q, leadM a (some p) b = some q → q < a.length := fun b q hq => by have := leadM_lt hq; omega
    exact ⟨by rw [he]; exact good_ext (hl false) h.1, by rw [he]; exact good_ext (hl true) h.2.1, by rw [he, he]; exact h.2.2⟩
theorem good_child {a : Ar} {m : Nat} {p : Option Nat} (h : Good a (m + 1) p) (b : Bool) : Good a m (leadM a p b) := by
  cases p with
  | none => exact good_none _ _
  | some p => cases b; exact h.1; exact h.2.1
theorem good_walk {a : Ar} {r : Int} {key : Nat} (h : Good a 16 (placeM a.length r)) : ∀ {n : Nat}, n ≤ 16 → Good a (16 - n) (walkM a r key n)
  | 0, _ => h
  | n + 1, hn => by
    have := good_walk (key := key) h (n := n) (by omega)
    rw [show 16 - n = (16 - (n + 1)) + 1 from by omega] at this
    exact good_child this _

theorem climb_good (a0 : Ar) (r : Int) (key : Nat) (h0 : Good a0 16 (placeM a0.length r)) : ∀ (n : Nat) (out : Ar) (q : Option Nat), n ≤ 16 → (∃ x, out = a0 ++ x) → (∀ p, q = some p → p < out.length) → Good out (16 - n) q →
    Good (climbM a0 r key n out (pl q)).1 16 (placeM (climbM a0 r key n out (pl q)).1.length (climbM a0 r key n out (pl q)).2)
  | 0, out, q, _, _, hq, hg => by
    show Good out 16 (placeM out.length (pl q))
    rw [placeM_pl hq]; exact hg
  | n + 1, out, q, hn, ⟨x0, hx0⟩, hq, hg => by
    have hgo := good_walk (key := key) h0 (n := n) (by omega)
    have hold : ∀ p, walkM a0 r key n = some p → p < a0.length := fun p hp => walkM_lt hp
    generalize hod : walkM a0 r key n = old at *
    have hother : ∀ (b : Bool) p, leadM a0 old b = some p → p < a0.length := fun b p hp => by obtain ⟨p', h1, h2, h3⟩ := leadM_some hp; omega
    obtain ⟨z, hz⟩ : ∃ z, (if bitM key n then leadM a0 old false else q) = z := ⟨_, rfl⟩
    obtain ⟨o, ho⟩ : ∃ o, (if bitM key n then q else leadM a0 old true) = o := ⟨_, rfl⟩
    have hzp : (if bitM key n then pl (leadM a0 old false) else pl q) = pl z := by rw [← hz]; split <;> rfl
    have hop : (if bitM key n then pl q else pl (leadM a0 old true)) = pl o := by rw [← ho]; split <;> rfl
    have hlen : a0.length ≤ out.length := by rw [hx0]; simp
    have hgc : ∀ b, Good out (16 - (n + 1)) (leadM a0 old b) := fun b => by
      rw [show 16 - n = (16 - (n + 1)) + 1 from by omega] at hgo
      rw [hx0]
      exact good_ext (hother b) (good_child hgo b)
    have hzl : (∀ p, z = some p → p < out.length) ∧ Good out (16 - (n + 1)) z := by
      rw [← hz]
      cases bitM key n
      · exact ⟨hq, hg⟩
      · exact ⟨fun p hp => by have := hother _ _ hp; omega, hgc false⟩
    have hol : (∀ p, o = some p → p < out.length) ∧ Good out (16 - (n + 1)) o := by
      rw [← ho]
      cases bitM key n
      · exact ⟨fun p hp => by have := hother _ _ hp; omega, hgc true⟩
      · exact ⟨hq, hg⟩
    have hstep : climbM a0 r key (n + 1) out (pl q) = if pl z = -1 ∧ pl o = -1 then climbM a0 r key n out (-1) else climbM a0 r key n (out ++ [(pl z, pl o, false, 0)]) out.length := by
      conv => lhs; unfold climbM
      simp only [hod, hzp, hop]
    by_cases hnone : pl z = -1 ∧ pl o = -1
    · rw [hstep, if_pos hnone]
      exact climb_good a0 r key h0 n out none (by omega) ⟨x0, hx0⟩ (by simp) (good_none _ _)
    · rw [hstep, if_neg hnone]
      have hlz : ∀ b, leadM (out ++ [(pl z, pl o, false, 0)]) (some out.length) b = if b then o else z := by
        intro b
        unfold leadM
        simp only [List.getElem?_append_right (Nat.le_refl _), Nat.sub_self, List.getElem?_cons_zero]
        cases b
        · exact placeM_pl hzl.1
        · exact placeM_pl hol.1
      refine climb_good a0 r key h0 n (out ++ [(pl z, pl o, false, 0)]) (some out.length) (by omega) ⟨x0 ++ [(pl z, pl o, false, 0)], by rw [hx0, List.append_assoc]⟩ (fun p hp => by cases hp; simp) ?_
      rw [show 16 - n = (16 - (n + 1)) + 1 from by omega]
      refine ⟨?_, ?_, ?_⟩
      · rw [hlz false]; exact good_ext hzl.1 hzl.2
      · rw [hlz true]; exact good_ext hol.1 hol.2
      · rw [hlz false, hlz true]
        exact fun h => hnone ⟨pl_neg.2 h.1, pl_neg.2 h.2⟩
theorem set_good {a : Ar} {r key val : Int} (h : Good a 16 (placeM a.length r)) : Good (setM a r key val).1 16 (placeM (setM a r key val).1.length (setM a r key val).2) := by
  by_cases hk : 0 ≤ key ∧ key < 65536
  · have hs : setM a r key val = climbM a r key.toNat 16 (a ++ [(-1, -1, true, val)]) (pl (some a.length)) := by unfold setM; rw [if_pos hk]; rfl
    rw [hs]
    refine climb_good a r key.toNat h 16 _ (some a.length) (Nat.le_refl _) ⟨_, rfl⟩ (fun p hp => by cases hp; simp) ?_
    have hl : ∀ b, leadM (a ++ [(-1, -1, true, val)]) (some a.length) b = none := by
      intro b
      unfold leadM
      simp only [List.getElem?_append_right (Nat.le_refl _), Nat.sub_self, List.getElem?_cons_zero]
      cases b <;> exact placeM_neg (by simp)
    refine ⟨?_, hl false, hl true⟩
    unfold valM
    simp
  · rw [set_out hk]; exact h
theorem del_good {a : Ar} {r key : Int} (h : Good a 16 (placeM a.length r)) : Good (delM a r key).1 16 (placeM (delM a r key).1.length (delM a r key).2) := by
  by_cases hk : (getI a r key).isSome = true
  · have hs : delM a r key = climbM a r key.toNat 16 a (pl none) := by unfold delM; rw [if_pos hk]; rfl
    rw [hs]
    exact climb_good a r key.toNat h 16 a none (Nat.le_refl _) ⟨[], by simp⟩ (by simp) (good_none _ _)
  · rw [del_no hk]; exact h

/-! ### Whatever is reached lies on the way to something -/
def stepsM (a : Ar) (key : Nat) : Nat → Nat → Option Nat → Option Nat
  | _, 0, p => p
  | 0, _ + 1, _ => none
  | m + 1, j + 1, p => stepsM a key m j (leadM a p (bitM key (15 - m)))
theorem steps_mod {a : Ar} {x y : Nat} : ∀ {m j : Nat} {p : Option Nat}, m ≤ 16 → x % 2 ^ m = y % 2 ^ m → stepsM a x m j p = stepsM a y m j p
  | _, 0, _, _, _ => by unfold stepsM; rfl
  | 0, _ + 1, _, _, _ => rfl
  | m + 1, j + 1, p, hm, h => by
    have := (bit_same (by omega)).1 h
    show stepsM a x m j (leadM a p (bitM x (15 - m))) = stepsM a y m j (leadM a p (bitM y (15 - m)))
    rw [this.1]
    exact steps_mod (by omega) this.2
theorem steps_walk {a : Ar} {r : Int} {key : Nat} : ∀ (j n : Nat), n + j ≤ 16 → stepsM a key (16 - n) j (walkM a r key n) = walkM a r key (n + j)
  | 0, n, _ => by unfold stepsM; rfl
  | j + 1, n, h => by
    have hm : 16 - n = (15 - n) + 1 := by omega
    rw [hm]
    show stepsM a key (15 - n) j (leadM a (walkM a r key n) (bitM key (15 - (15 - n)))) = _
    rw [show 15 - (15 - n) = n from by omega]
    have := steps_walk (a := a) (r := r) (key := key) j (n + 1) (by omega)
    rw [show 16 - (n + 1) = 15 - n from by omega, show n + 1 + j = n + (j + 1) from by omega] at this
    exact this
theorem with_bit (ask : Nat) {m : Nat} (hm : m ≤ 15) (b : Bool) : ∃ y, bitM y (15 - m) = b ∧ y % 2 ^ m = ask % 2 ^ m := by
  have hpos := Nat.two_pow_pos m
  have hlt := Nat.mod_lt ask hpos
  refine ⟨(if b then 2 ^ m else 0) + ask % 2 ^ m, ?_, ?_⟩
  · unfold bitM
    rw [show 15 - (15 - m) = m from by omega]
    cases b
    · simp [Nat.div_eq_of_lt hlt]
    · rw [if_pos rfl, Nat.add_div_left _ hpos, Nat.div_eq_of_lt hlt]; rfl
  · cases b
    · simp
    · simp
theorem good_view {a : Ar} : ∀ {m : Nat} {p : Nat}, m ≤ 16 → Good a m (some p) → ∃ ask, (viewM a ask m (some p)).isSome = true
  | 0, p, _, h => ⟨0, h.1⟩
  | m + 1, p, hm, h => by
    have : ∃ b q, leadM a (some p) b = some q := by
      cases h0 : leadM a (some p) false with
      | some q => exact ⟨false, q, h0⟩
      | none =>
        cases h1 : leadM a (some p) true with
        | some q => exact ⟨true, q, h1⟩
        | none => exact (h.2.2 ⟨h0, h1⟩).elim
    obtain ⟨b, q, hq⟩ := this
    have hg := good_child h b
    rw [hq] at hg
    obtain ⟨ask, ha⟩ := good_view (by omega) hg
    obtain ⟨y, hy1, hy2⟩ := with_bit ask (show m ≤ 15 by omega) b
    refine ⟨y, ?_⟩
    show (viewM a y m (leadM a (some p) (bitM y (15 - m)))).isSome = true
    rw [hy1, hq, viewM_mod (by omega) hy2]; exact ha
theorem good_from {a : Ar} : ∀ {m : Nat} {p p' : Nat}, m ≤ 16 → Good a m (some p) → From a p p' → ∃ ask j, j ≤ m ∧ stepsM a ask m j (some p) = some p' ∧ (viewM a ask m (some p)).isSome = true
  | 0, p, p', hm, h, hf => by
    rcases from_head hf with rfl | ⟨b, q, hl, _⟩
    · exact ⟨0, 0, by omega, by unfold stepsM; rfl, h.1⟩
    · cases b
      · rw [h.2.1] at hl; cases hl
      · rw [h.2.2] at hl; cases hl
  | m + 1, p, p', hm, h, hf => by
    rcases from_head hf with rfl | ⟨b, q, hl, hf2⟩
    · obtain ⟨ask, ha⟩ := good_view hm h
      exact ⟨ask, 0, by omega, by unfold stepsM; rfl, ha⟩
    · have hg := good_child h b
      rw [hl] at hg
      obtain ⟨ask, j, hj, hs, hv⟩ := good_from (by omega) hg hf2
      obtain ⟨y, hy1, hy2⟩ := with_bit ask (show m ≤ 15 by omega) b
      refine ⟨y, j + 1, by omega, ?_, ?_⟩
      · show stepsM a y m j (leadM a (some p) (bitM y (15 - m))) = some p'
        rw [hy1, hl, steps_mod (by omega) hy2]; exact hs
      · show (viewM a y m (leadM a (some p) (bitM y (15 - m)))).isSome = true
        rw [hy1, hl, viewM_mod (by omega) hy2]; exact hv

theorem nodup_le : ∀ {l l' : List Nat}, l.Pairwise (fun a b => a ≠ b) → (∀ x ∈ l, x ∈ l') → l.length ≤ l'.length
  | [], _, _, _ => by simp
  | x :: r, l', hn, hs => by
    have hp := List.pairwise_cons.1 hn
    have hx := hs x (List.mem_cons_self ..)
    have := nodup_le (l := r) (l' := l'.erase x) hp.2 (fun y hy => (List.mem_erase_of_ne (fun e => hp.1 y hy e.symm)).2 (hs y (List.mem_cons_of_mem _ hy)))
    rw [List.length_erase_of_mem hx] at this
    have hpos := List.length_pos_of_mem hx
    simp only [List.length_cons]
    omega
theorem range_nodup (n : Nat) : (List.range n).Pairwise (fun a b => a ≠ b) := (List.pairwise_lt_range (n := n)).imp (fun h => Nat.ne_of_lt h)
/-- At most seventeen places for each key that has something. -/
theorem good_live {a : Ar} {r : Int} {n : Nat} (h : Good a 16 (placeM a.length r)) (hn : LiveIs a [r] n) : n ≤ 17 * (keysM a r).length := by
  obtain ⟨f, hf, rfl⟩ := hn
  have hlen : ∀ l : List Nat, (l.flatMap (fun k => (List.range 17).filterMap (fun j => walkM a r k j))).length ≤ 17 * l.length := by
    intro l
    induction l with
    | nil => simp
    | cons k s ih =>
      rw [List.flatMap_cons, List.length_append, List.length_cons]
      have := List.length_filterMap_le (fun j => walkM a r k j) (List.range 17)
      rw [List.length_range] at this
      omega
  refine Nat.le_trans (nodup_le ((range_nodup a.length).filter _) (fun p hp => ?_)) (hlen (keysM a r))
  have hp := (hf p).1 (List.mem_filter.1 hp).2
  obtain ⟨r', hr', p0, h1, h2⟩ := hp
  have : r' = r := by simpa using hr'
  subst this
  rw [h1] at h
  obtain ⟨ask, j, hj, hs, hv⟩ := good_from (Nat.le_refl _) h h2
  have hm : ask % 2 ^ 16 = (ask % 65536) % 2 ^ 16 := by omega
  rw [steps_mod (Nat.le_refl _) hm] at hs
  rw [viewM_mod (Nat.le_refl _) hm] at hv
  have hlt : ask % 65536 < 65536 := Nat.mod_lt _ (by omega)
  generalize ask % 65536 = k at *
  refine List.mem_flatMap.2 ⟨k, ?_, List.mem_filterMap.2 ⟨j, List.mem_range.2 (by omega), ?_⟩⟩
  · unfold keysM
    refine List.mem_filter.2 ⟨List.mem_range.2 hlt, ?_⟩
    rw [getM_root, h1]; exact hv
  · have := steps_walk (a := a) (r := r') (key := k) j 0 (by omega)
    rw [show walkM a r' k 0 = some p0 from h1, Nat.zero_add] at this
    rw [← this]; exact hs
end Go.Proofs.Ytfcljepagnipaaa
