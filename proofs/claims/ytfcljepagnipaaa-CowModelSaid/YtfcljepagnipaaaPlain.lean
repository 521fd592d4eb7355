/-
  Proved here: plain laws of arenas, with no program in sight: where a place leads to, where a key's bits lead to, and what a path that is laid anew tells.
-/
namespace Go.Proofs.Ytfcljepagnipaaa

/-- A cell: where it leads by 0 and by 1, whether it has something, what. -/
abbrev Ce := Int × Int × Bool × Int
abbrev Ar := List Ce

def placeM (n : Nat) (r : Int) : Option Nat := if 0 ≤ r ∧ r < (n : Int) then some r.toNat else none
def pl (p : Option Nat) : Int := match p with
  | some p => (p : Int)
  | none => -1
def leadM (a : Ar) (p : Option Nat) (b : Bool) : Option Nat := match p with
  | none => none
  | some p => match a[p]? with
    | none => none
    | some c => placeM p (if b then c.2.1 else c.1)
def bitM (key i : Nat) : Bool := key / 2 ^ (15 - i) % 2 == 1
def walkM (a : Ar) (r : Int) (key : Nat) : Nat → Option Nat
  | 0 => placeM a.length r
  | n + 1 => leadM a (walkM a r key n) (bitM key n)
def valM (a : Ar) (p : Option Nat) : Option Int := match p with
  | none => none
  | some p => match a[p]? with
    | none => none
    | some c => if c.2.2.1 then some c.2.2.2 else none
/-- From a place that so many bits are still ahead of. -/
def viewM (a : Ar) (key : Nat) : Nat → Option Nat → Option Int
  | 0, p => valM a p
  | m + 1, p => viewM a key m (leadM a p (bitM key (15 - m)))
def getM (a : Ar) (r : Int) (key : Nat) : Option Int := valM a (walkM a r key 16)
def getI (a : Ar) (r key : Int) : Option Int := if 0 ≤ key ∧ key < 65536 then getM a r key.toNat else none

def climbM (a0 : Ar) (r : Int) (key : Nat) : Nat → Ar → Int → Ar × Int
  | 0, out, last => (out, last)
  | n + 1, out, last =>
    let z := if bitM key n then pl (leadM a0 (walkM a0 r key n) false) else last
    let o := if bitM key n then last else pl (leadM a0 (walkM a0 r key n) true)
    if z = -1 ∧ o = -1 then climbM a0 r key n out (-1) else climbM a0 r key n (out ++ [(z, o, false, 0)]) out.length
def setM (a : Ar) (r key val : Int) : Ar × Int := if 0 ≤ key ∧ key < 65536 then climbM a r key.toNat 16 (a ++ [(-1, -1, true, val)]) a.length else (a, r)
def delM (a : Ar) (r key : Int) : Ar × Int := if (getI a r key).isSome then climbM a r key.toNat 16 a (-1) else (a, r)
def keysM (a : Ar) (r : Int) : List Nat := (List.range 65536).filter (fun k => (getM a r k).isSome)

theorem placeM_lt {n : Nat} {r : Int} {p : Nat} (h : placeM n r = some p) : p < n ∧ r = (p : Int) := by
  unfold placeM at h
  split at h
  · cases h; omega
  · cases h
theorem placeM_nat {n p : Nat} (h : p < n) : placeM n (p : Int) = some p := by
  unfold placeM; rw [if_pos (by omega), Int.toNat_natCast]
theorem placeM_neg {n : Nat} {r : Int} (h : r < 0) : placeM n r = none := by unfold placeM; rw [if_neg (by omega)]
theorem placeM_pl {n : Nat} {p : Option Nat} (h : ∀ q, p = some q → q < n) : placeM n (pl p) = p := by
  cases p with
  | none => exact placeM_neg (by simp [pl])
  | some q => exact placeM_nat (h q rfl)
theorem placeM_mono {n m : Nat} {r : Int} (h : r < (n : Int)) (hm : n ≤ m) : placeM m r = placeM n r := by
  unfold placeM
  by_cases h0 : 0 ≤ r
  · rw [if_pos ⟨h0, by omega⟩, if_pos ⟨h0, h⟩]
  · rw [if_neg (by omega), if_neg (by omega)]
theorem pl_ge (p : Option Nat) : -1 ≤ pl p := by
  cases p with
  | none => simp [pl]
  | some q => simp only [pl]; omega
theorem pl_neg {p : Option Nat} : pl p = -1 ↔ p = none := by
  cases p with
  | none => simp [pl]
  | some q => simp only [pl]; constructor
              · intro h; omega
              · intro h; cases h

theorem leadM_lt {a : Ar} {p : Nat} {b : Bool} {q : Nat} (h : leadM a (some p) b = some q) : q < p ∧ p < a.length := by
  unfold leadM at h
  simp only at h
  split at h
  · cases h
  · rename_i c hc
    exact ⟨(placeM_lt h).1, (List.getElem?_eq_some_iff.1 hc).1⟩
theorem leadM_some {a : Ar} {p : Option Nat} {b : Bool} {q : Nat} (h : leadM a p b = some q) : ∃ p', p = some p' ∧ q < p' ∧ p' < a.length := by
  cases p with
  | none => cases h
  | some p' => exact ⟨p', rfl, leadM_lt h⟩
theorem leadM_ext {a x : Ar} {p : Option Nat} (hp : ∀ q, p = some q → q < a.length) (b : Bool) : leadM (a ++ x) p b = leadM a p b := by
  cases p with
  | none => rfl
  | some p =>
    unfold leadM
    simp only
    rw [List.getElem?_append_left (hp p rfl)]
theorem walkM_lt {a : Ar} {r : Int} {key : Nat} : ∀ {n : Nat} {p : Nat}, walkM a r key n = some p → p < a.length
  | 0, p, h => (placeM_lt h).1
  | n + 1, p, h => by obtain ⟨p', _, h1, h2⟩ := leadM_some h; omega
theorem walkM_ext {a x : Ar} {r : Int} (hr : r < (a.length : Int)) (key : Nat) : ∀ n, walkM (a ++ x) r key n = walkM a r key n
  | 0 => placeM_mono hr (by simp)
  | n + 1 => by
    unfold walkM
    rw [walkM_ext hr key n, leadM_ext (fun q hq => walkM_lt hq)]
theorem valM_ext {a x : Ar} {p : Option Nat} (hp : ∀ q, p = some q → q < a.length) : valM (a ++ x) p = valM a p := by
  cases p with
  | none => rfl
  | some p =>
    unfold valM
    simp only
    rw [List.getElem?_append_left (hp p rfl)]
theorem getM_ext {a x : Ar} {r : Int} (hr : r < (a.length : Int)) (key : Nat) : getM (a ++ x) r key = getM a r key := by
  unfold getM
  rw [walkM_ext hr, valM_ext (fun q hq => walkM_lt hq)]
theorem viewM_ext {a x : Ar} (key : Nat) : ∀ (m : Nat) {p : Option Nat}, (∀ q, p = some q → q < a.length) → viewM (a ++ x) key m p = viewM a key m p
  | 0, _, hp => valM_ext hp
  | m + 1, p, hp => by
    unfold viewM
    rw [leadM_ext hp]
    exact viewM_ext key m (fun q hq => by obtain ⟨p', h1, h2, h3⟩ := leadM_some hq; omega)
theorem viewM_none (a : Ar) (key : Nat) : ∀ m, viewM a key m none = none
  | 0 => rfl
  | m + 1 => by unfold viewM; exact viewM_none a key m
theorem getM_view {a : Ar} {r : Int} {key : Nat} : ∀ m, m ≤ 16 → getM a r key = viewM a key m (walkM a r key (16 - m))
  | 0, _ => rfl
  | m + 1, h => by
    rw [getM_view m (by omega)]
    rw [show 16 - m = (16 - (m + 1)) + 1 from by omega]
    show viewM a key m (leadM a (walkM a r key (16 - (m + 1))) (bitM key (16 - (m + 1)))) = viewM a key m (leadM a (walkM a r key (16 - (m + 1))) (bitM key (15 - m)))
    rw [show 16 - (m + 1) = 15 - m from by omega]
theorem getM_root {a : Ar} {r : Int} {key : Nat} : getM a r key = viewM a key 16 (placeM a.length r) := getM_view 16 (Nat.le_refl _)

/-! ### Bits -/
theorem mod_split (x m : Nat) : x % 2 ^ (m + 1) = 2 ^ m * (x / 2 ^ m % 2) + x % 2 ^ m := by
  rw [Nat.pow_succ, Nat.mod_mul, Nat.add_comm]
theorem bit_split (x : Nat) {m : Nat} (hm : m ≤ 15) : x % 2 ^ (m + 1) = (if bitM x (15 - m) then 2 ^ m else 0) + x % 2 ^ m := by
  rw [mod_split]
  unfold bitM
  rw [show 15 - (15 - m) = m from by omega]
  rcases Nat.mod_two_eq_zero_or_one (x / 2 ^ m) with h | h <;> simp [h]
theorem bit_same {x y m : Nat} (hm : m ≤ 15) : x % 2 ^ (m + 1) = y % 2 ^ (m + 1) ↔ bitM x (15 - m) = bitM y (15 - m) ∧ x % 2 ^ m = y % 2 ^ m := by
  rw [bit_split x hm, bit_split y hm]
  have h1 := Nat.mod_lt x (Nat.two_pow_pos m)
  have h2 := Nat.mod_lt y (Nat.two_pow_pos m)
  cases bitM x (15 - m) <;> cases bitM y (15 - m) <;> simp <;> omega
theorem viewM_mod {a : Ar} {x y : Nat} : ∀ {m : Nat} {p : Option Nat}, m ≤ 16 → x % 2 ^ m = y % 2 ^ m → viewM a x m p = viewM a y m p
  | 0, _, _, _ => rfl
  | m + 1, p, hm, h => by
    have := (bit_same (by omega)).1 h
    unfold viewM
    rw [this.1]
    exact viewM_mod (by omega) this.2

/-! ### What a path that is laid anew tells -/
theorem climb_law (a0 : Ar) (r : Int) (key : Nat) (v : Option Int) : ∀ (n : Nat) (out : Ar) (q : Option Nat), n ≤ 16 → (∃ x, out = a0 ++ x) → (∀ p, q = some p → p < out.length) →
    (∀ ask, viewM out ask (16 - n) q = if ask % 2 ^ (16 - n) = key % 2 ^ (16 - n) then v else viewM a0 ask (16 - n) (walkM a0 r key n)) →
    ∃ x q', (climbM a0 r key n out (pl q)) = (out ++ x, pl q') ∧ (∀ p, q' = some p → p < (out ++ x).length) ∧ x.length ≤ n ∧ (q ≠ none → x.length = n ∧ q' ≠ none) ∧
      (∀ ask, viewM (out ++ x) ask 16 q' = if ask % 2 ^ 16 = key % 2 ^ 16 then v else viewM a0 ask 16 (placeM a0.length r))
  | 0, out, q, _, _, hq, hv => ⟨[], q, by simp [climbM], by simpa using hq, by simp, by simp, fun ask => by have := hv ask; rw [List.append_nil]; exact this⟩
  | n + 1, out, q, hn, ⟨x0, hx0⟩, hq, hv => by
    have hm : 16 - n = (16 - (n + 1)) + 1 := by omega
    have hb : 15 - (16 - (n + 1)) = n := by omega
    have hold : ∀ p, walkM a0 r key n = some p → p < a0.length := fun p hp => walkM_lt hp
    have hwalk : walkM a0 r key (n + 1) = leadM a0 (walkM a0 r key n) (bitM key n) := rfl
    generalize hod : walkM a0 r key n = old at *
    have hother : ∀ (b : Bool) p, leadM a0 old b = some p → p < a0.length := fun b p hp => by obtain ⟨p', h1, h2, h3⟩ := leadM_some hp; omega
    -- the two children
    obtain ⟨z, hz⟩ : ∃ z, (if bitM key n then leadM a0 old false else q) = z := ⟨_, rfl⟩
    obtain ⟨o, ho⟩ : ∃ o, (if bitM key n then q else leadM a0 old true) = o := ⟨_, rfl⟩
    have hzp : (if bitM key n then pl (leadM a0 old false) else pl q) = pl z := by rw [← hz]; split <;> rfl
    have hop : (if bitM key n then pl q else pl (leadM a0 old true)) = pl o := by rw [← ho]; split <;> rfl
    have hlen : a0.length ≤ out.length := by rw [hx0]; simp
    have hzl : ∀ p, z = some p → p < out.length := by
      intro p hp; rw [← hz] at hp
      split at hp
      · have := hother _ _ hp; omega
      · exact hq p hp
    have hol : ∀ p, o = some p → p < out.length := by
      intro p hp; rw [← ho] at hp
      split at hp
      · exact hq p hp
      · have := hother _ _ hp; omega
    -- what each child tells
    have hchild : ∀ (ask : Nat), viewM out ask (16 - (n + 1)) (if bitM ask n then o else z) = if ask % 2 ^ (16 - n) = key % 2 ^ (16 - n) then v else viewM a0 ask (16 - n) old := by
      intro ask
      have hsame := bit_same (x := ask) (y := key) (m := 16 - (n + 1)) (by omega)
      rw [hb] at hsame
      rw [hm]
      have hview : viewM a0 ask (16 - (n + 1) + 1) old = viewM a0 ask (16 - (n + 1)) (leadM a0 old (bitM ask n)) := by
        conv => lhs; unfold viewM
        rw [hb]
      rw [hview]
      by_cases e : bitM ask n = bitM key n
      · have hc : (if bitM ask n then o else z) = q := by
          rw [← hz, ← ho, e]; cases bitM key n <;> simp
        rw [hc, hv ask, hwalk, e]
        by_cases h2 : ask % 2 ^ (16 - (n + 1)) = key % 2 ^ (16 - (n + 1))
        · rw [if_pos h2, if_pos (hsame.2 ⟨e, h2⟩)]
        · rw [if_neg h2, if_neg (fun h => h2 (hsame.1 h).2)]
      · have hc : (if bitM ask n then o else z) = leadM a0 old (bitM ask n) := by
          rw [← hz, ← ho]
          cases h1 : bitM ask n <;> cases h2 : bitM key n <;> simp_all
        rw [hc, if_neg (fun h => e (hsame.1 h).1), hx0]
        exact viewM_ext ask _ (fun p hp => hother _ _ hp)
    have hstep : climbM a0 r key (n + 1) out (pl q) = if pl z = -1 ∧ pl o = -1 then climbM a0 r key n out (-1) else climbM a0 r key n (out ++ [(pl z, pl o, false, 0)]) out.length := by
      conv => lhs; unfold climbM
      simp only [hod, hzp, hop]
    by_cases hnone : pl z = -1 ∧ pl o = -1
    · have hz0 := pl_neg.1 hnone.1
      have ho0 := pl_neg.1 hnone.2
      have hq0 : q = none := by
        rw [hz0] at hz; rw [ho0] at ho
        cases h : bitM key n
        · simpa [h] using hz
        · simpa [h] using ho
      obtain ⟨x, q', h1, h2, h3, h4, h5⟩ := climb_law a0 r key v n out none (by omega) ⟨x0, hx0⟩ (by simp) (by
        intro ask
        rw [hod, ← hchild ask, hz0, ho0, viewM_none]
        simp [viewM_none])
      refine ⟨x, q', by rw [hstep, if_pos hnone]; exact h1, h2, by omega, fun h => absurd hq0 h, h5⟩
    · obtain ⟨x, q', h1, h2, h3, h4, h5⟩ := climb_law a0 r key v n (out ++ [(pl z, pl o, false, 0)]) (some out.length) (by omega) ⟨x0 ++ [(pl z, pl o, false, 0)], by rw [hx0, List.append_assoc]⟩ (by simp) (by
        intro ask
        rw [hod, ← hchild ask, hm]
        conv => lhs; unfold viewM
        rw [hb]
        have hl : leadM (out ++ [(pl z, pl o, false, 0)]) (some out.length) (bitM ask n) = (if bitM ask n then o else z) := by
          unfold leadM
          simp only [List.getElem?_append_right (Nat.le_refl _), Nat.sub_self, List.getElem?_cons_zero]
          cases bitM ask n
          · exact placeM_pl hzl
          · exact placeM_pl hol
        rw [hl]
        exact viewM_ext ask _ (fun p hp => by
          split at hp
          · exact hol p hp
          · exact hzl p hp))
      refine ⟨(pl z, pl o, false, 0) :: x, q', ?_, ?_, by simp; omega, fun _ => ?_, ?_⟩
      · rw [hstep, if_neg hnone, show out ++ (pl z, pl o, false, 0) :: x = (out ++ [(pl z, pl o, false, 0)]) ++ x from by simp]
        exact h1
      · rw [show out ++ (pl z, pl o, false, 0) :: x = (out ++ [(pl z, pl o, false, 0)]) ++ x from by simp]
        exact h2
      · have := h4 (by simp); simp; exact ⟨this.1, this.2⟩
      · rw [show out ++ (pl z, pl o, false, 0) :: x = (out ++ [(pl z, pl o, false, 0)]) ++ x from by simp]
        exact h5
end Go.Proofs.Ytfcljepagnipaaa
