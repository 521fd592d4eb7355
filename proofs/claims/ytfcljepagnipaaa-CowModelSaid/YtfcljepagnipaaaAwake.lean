/-
  Proved here: the law's own waking test answers true.
-/
import Derived.Test.YtfcljepagnipaaaLives
namespace Go.Proofs.Ytfcljepagnipaaa
set_option maxRecDepth 100000

/-- Places, each a root or led to from another one of them, and all that these lead to. -/
def certB (a : Ar) (roots : List Int) (S : List Nat) : Bool :=
  (roots.all fun r => match placeM a.length r with | none => true | some p => S.contains p) &&
  (S.all fun q => [false, true].all fun b => match leadM a (some q) b with | none => true | some p => S.contains p) &&
  (S.all fun p => (decide (p < a.length) && roots.contains (p : Int)) || S.any fun q => [false, true].any fun b => match leadM a (some q) b with | none => false | some p' => p' == p)
theorem cert_live {a : Ar} {roots : List Int} {S : List Nat} {n : Nat} (h : certB a roots S = true) (hn : n = ((List.range a.length).filter (fun p => S.contains p)).length) : LiveIs a roots n := by
  unfold certB at h
  rw [Bool.and_eq_true, Bool.and_eq_true] at h
  obtain ⟨⟨h1, h2⟩, h3⟩ := h
  rw [List.all_eq_true] at h1 h2 h3
  have hlead : ∀ q ∈ S, ∀ b p, leadM a (some q) b = some p → p ∈ S := by
    intro q hq b p hl
    have := h2 q hq
    rw [List.all_eq_true] at this
    have := this b (by cases b <;> simp)
    rw [hl] at this
    simpa using this
  refine ⟨fun p => S.contains p, fun p => ?_, hn⟩
  constructor
  · intro hp
    have hp : p ∈ S := by simpa using hp
    -- downwards from the greatest
    have key : ∀ d p, a.length - p ≤ d → p ∈ S → Reach a roots p := by
      intro d
      induction d with
      | zero =>
        intro p hd hp
        have := h3 p hp
        rw [Bool.or_eq_true] at this
        rcases this with h | h
        · rw [Bool.and_eq_true] at h
          have := of_decide_eq_true h.1
          omega
        · rw [List.any_eq_true] at h
          obtain ⟨q, hq, h⟩ := h
          rw [List.any_eq_true] at h
          obtain ⟨b, _, h⟩ := h
          cases hl : leadM a (some q) b with
          | none => rw [hl] at h; cases h
          | some p' => 
            rw [hl] at h
            have := leadM_lt hl
            have hpp : p' = p := by simpa using h
            omega
      | succ d ih =>
        intro p hd hp
        have := h3 p hp
        rw [Bool.or_eq_true] at this
        rcases this with h | h
        · rw [Bool.and_eq_true] at h
          exact reach_iff.2 (.inl ⟨⟨(p : Int), by simpa using h.2, rfl⟩, of_decide_eq_true h.1⟩)
        · rw [List.any_eq_true] at h
          obtain ⟨q, hq, h⟩ := h
          rw [List.any_eq_true] at h
          obtain ⟨b, _, h⟩ := h
          cases hl : leadM a (some q) b with
          | none => rw [hl] at h; cases h
          | some p' =>
            rw [hl] at h
            have hpp : p' = p := by simpa using h
            subst hpp
            have := leadM_lt hl
            exact reach_iff.2 (.inr ⟨q, b, ih q (by omega) hq, hl⟩)
    exact key _ p (Nat.le_refl _) hp
  · rintro ⟨r, hr, p0, hp0, hf⟩
    have h0 : p0 ∈ S := by
      have := h1 r hr
      rw [hp0] at this
      simpa using this
    have : p ∈ S := by
      induction hf with
      | here => exact h0
      | step b _ hl ih => exact hlead _ ih b _ hl
    simpa using this

theorem keys_of {a : Ar} {x : Int} (l : List Nat) (N : Nat) (hN : N ≤ 65536) (hl : (List.range N).filter (fun k => l.contains k) = l) (h : ∀ k : Nat, k < 65536 → ((getI a x (k : Int)).isSome = true ↔ k ∈ l)) : keysI a x = l.map (fun k : Nat => (k : Int)) := by
  unfold keysI keysM
  congr 1
  have hlt : ∀ k ∈ l, k < N := by
    intro k hk
    rw [← hl] at hk
    exact List.mem_range.1 (List.mem_filter.1 hk).1
  have hc : (List.range 65536).filter (fun k => (getM a x k).isSome) = (List.range 65536).filter (fun k => l.contains k) := by
    apply List.filter_congr
    intro k hk
    have hk := List.mem_range.1 hk
    have := h k hk
    rw [getI_in rfl hk] at this
    rw [Bool.eq_iff_iff, this]; simp
  rw [hc, show 65536 = N + (65536 - N) from by omega, List.range_add, List.filter_append, hl]
  have : ((List.range (65536 - N)).map (N + ·)).filter (fun k => l.contains k) = [] := by
    rw [List.filter_eq_nil_iff]
    intro k hk
    obtain ⟨j, _, rfl⟩ := List.mem_map.1 hk
    intro hc
    have := hlt (N + j) (by simpa using hc)
    omega
  rw [this, List.append_nil]

/-- The arenas of the waking test. -/
theorem awake_facts : ∃ bA bB bC : Ar, setM [] (-1) 5 7 = (bA, 16) ∧ bA.length = 17 ∧ setM bA 16 4 8 = (bB, 33) ∧ bB.length = 34 ∧ delM bB 33 5 = (bC, 49) ∧ bC.length = 50 ∧ delM bC 49 4 = (bC, -1) ∧
    LiveIs bB [33] 18 ∧ LiveIs bB [16, 33] 34 ∧ getI bC 33 5 = some 7 ∧ getI bC 49 5 = none ∧ getI bC 49 4 = some 8 ∧ keysI bC 33 = [4, 5] ∧ keysI bC 49 = [4] ∧ keysI bC (-1) = [] := by
  obtain ⟨bA, hA⟩ : ∃ b, b = (setM [] (-1) 5 7).1 := ⟨_, rfl⟩
  obtain ⟨bB, hB⟩ : ∃ b, b = (setM (setM [] (-1) 5 7).1 16 4 8).1 := ⟨_, rfl⟩
  obtain ⟨bC, hC⟩ : ∃ b, b = (delM (setM (setM [] (-1) 5 7).1 16 4 8).1 33 5).1 := ⟨_, rfl⟩
  have eA : setM [] (-1) 5 7 = (bA, 16) := by rw [hA]; exact Prod.ext rfl (by decide +kernel)
  have eB : setM bA 16 4 8 = (bB, 33) := by rw [hB, hA]; exact Prod.ext rfl (by decide +kernel)
  have eC : delM bB 33 5 = (bC, 49) := by rw [hC, hB]; exact Prod.ext rfl (by decide +kernel)
  have eD : delM bC 49 4 = (bC, -1) := by rw [hC]; decide +kernel
  have lA : bA.length = 17 := by rw [hA]; decide +kernel
  have lB : bB.length = 34 := by rw [hB]; decide +kernel
  have lC : bC.length = 50 := by rw [hC]; decide +kernel
  have g5 : getI bB 33 5 = some 7 := by rw [hB]; decide +kernel
  obtain ⟨x1, q1, s1, _, _, _, v1⟩ := set_law (a := []) (r := -1) (key := 5) (val := 7) (by omega)
  obtain ⟨x2, q2, s2, _, _, _, v2⟩ := set_law (a := bA) (r := 16) (key := 4) (val := 8) (by omega)
  obtain ⟨x3, q3, s3, _, _, v3⟩ := del_law (a := bB) (r := 33) (key := 5) (by rw [g5]; rfl)
  rw [eA] at s1
  rw [eB] at s2
  rw [eC] at s3
  injection s1 with s1 t1
  injection s2 with s2 t2
  injection s3 with s3 t3
  rw [← s1, ← t1] at v1
  rw [← s2, ← t2] at v2
  rw [← s3, ← t3] at v3
  have h0 : ∀ ask, getI [] (-1) ask = none := by
    intro ask
    unfold getI
    split
    · rw [getM_root, show placeM ([] : Ar).length (-1) = none from rfl, viewM_none]
    · rfl
  have k33 : ∀ ask, getI bC 33 ask = if ask = 4 then some 8 else if ask = 5 then some 7 else none := by
    intro ask
    rw [s3, getI_ext (by omega), v2, v1, h0]
  have k49 : ∀ ask, getI bC 49 ask = if ask = 5 then none else if ask = 4 then some 8 else none := by
    intro ask
    rw [v3, v2, v1, h0]
    by_cases e5 : ask = 5
    · rw [if_pos e5, if_pos e5]
    · rw [if_neg e5, if_neg e5]
      by_cases e4 : ask = 4
      · rw [if_pos e4, if_neg e5]
      · rw [if_neg e4, if_neg e5]
  refine ⟨bA, bB, bC, eA, lA, eB, lB, eC, lC, eD, ?_, ?_, ?_, ?_, ?_, ?_, ?_, ?_⟩
  · rw [hB]; exact cert_live (S := 0 :: List.range' 17 17) (by decide +kernel) (by decide +kernel)
  · rw [hB]; exact cert_live (S := List.range 34) (by decide +kernel) (by decide +kernel)
  · rw [k33]; rfl
  · rw [k49]; rfl
  · rw [k49]; rfl
  · refine keys_of [4, 5] 6 (by omega) (by decide) (fun k _ => ?_)
    rw [k33]
    by_cases e4 : (k : Int) = 4
    · have : k = 4 := by omega
      subst this; simp
    · rw [if_neg e4]
      by_cases e5 : (k : Int) = 5
      · have : k = 5 := by omega
        subst this; simp
      · rw [if_neg e5]; simp; omega
  · refine keys_of [4] 5 (by omega) (by decide) (fun k _ => ?_)
    rw [k49]
    by_cases e5 : (k : Int) = 5
    · rw [if_pos e5]; simp; omega
    · rw [if_neg e5]
      by_cases e4 : (k : Int) = 4
      · have : k = 4 := by omega
        subst this; simp
      · rw [if_neg e4]; simp; omega
  · unfold keysI keysM
    have : (List.range 65536).filter (fun k => (getM bC (-1) k).isSome) = [] := by
      rw [List.filter_eq_nil_iff]
      intro k _
      rw [getM_root, placeM_neg (by omega), viewM_none]; simp
    rw [this]; rfl

theorem setN_spec (W : World) (L : List Ent) (A : Option Addr) (c n n' : Nat) (a b : Ar) (x ky val r : Int) (e : setM a x ky val = (b, r)) (en : n = a.length) (en' : n' = b.length) (hl : a.length ≤ 40000) (ha : Knows W L (Rd A 4 ceC a)) :
    CallS Try.prog W 11 #[.slice A n c, .int .i64 x, .int .i64 ky, .int .i64 val] L (fun v L' => ∃ A' c', v = .tuple #[.slice A' n' c', .int .i64 r] ∧ L' = rowT 50 4 ceC A' c' b :: L) := by
  have := set_spec W L A c a x ky val hl ha
  rw [e] at this; subst en; subst en'; exact this
theorem delN_spec (W : World) (L : List Ent) (A : Option Addr) (c n n' : Nat) (a b : Ar) (x ky r : Int) (e : delM a x ky = (b, r)) (en : n = a.length) (en' : n' = b.length) (hl : a.length ≤ 40000) (ha : Knows W L (Rd A 4 ceC a)) :
    CallS Try.prog W 13 #[.slice A n c, .int .i64 x, .int .i64 ky] L (fun v L' => ∃ A' c', v = .tuple #[.slice A' n' c', .int .i64 r] ∧ L' = rowT 50 4 ceC A' c' b :: L) := by
  have := del_spec W L A c a x ky hl ha
  rw [e] at this; subst en; subst en'; exact this
theorem getN_spec (W : World) (L : List Ent) (A : Option Addr) (c n : Nat) (a : Ar) (x ky v : Int) (o : Bool) (e : gres (getI a x ky) = (v, o)) (en : n = a.length) (hl : a.length ≤ 40000) (ha : Knows W L (Rd A 4 ceC a)) :
    CallS Try.prog W 9 #[.slice A n c, .int .i64 x, .int .i64 ky] L (fun u L' => u = .tuple #[.int .i64 v, .bool o] ∧ L' = L) := by
  have := get_spec W L A c a x ky (by omega) ha
  rw [e] at this; subst en; exact this
theorem liveN_spec (W : World) (L : List Ent) (A B : Option Addr) (c d n k : Nat) (a : Ar) (roots : List Int) (m : Nat) (e : LiveIs a roots m) (en : n = a.length) (ek : k = roots.length) (hl : a.length ≤ 40000) (hr : roots.length ≤ 40000) (ha : Knows W L (Rd A 4 ceC a)) (hb : Knows W L (Rd B 1 nmC roots)) :
    CallS Try.prog W 19 #[.slice A n c, .slice B k d] L (fun v L' => v = .int .i64 (m : Int) ∧ L' = L) := by
  subst en; subst ek
  refine (live_spec W L A B c d a roots hl hr ha hb).mono ?_
  rintro _ _ ⟨⟨n, rfl, hn⟩, rfl⟩
  rw [live_one hn e]
  exact ⟨rfl, rfl⟩
theorem keysN_spec (W : World) (L : List Ent) (A : Option Addr) (c n n' : Nat) (a : Ar) (x : Int) (l : List Int) (e : keysI a x = l) (en : n = a.length) (en' : n' = l.length) (hl : a.length ≤ 40000) (ha : Knows W L (Rd A 4 ceC a)) :
    CallS Try.prog W 17 #[.slice A n c, .int .i64 x] L (fun v L' => ∃ A' c', v = .slice A' n' c' ∧ L' = rowT 3 1 nmC A' c' l :: L) := by
  have := keys_spec W L A c a x hl ha
  rw [e] at this; subst en; subst en'; exact this

set_option maxHeartbeats 2000000 in
theorem awake_spec (W : World) (L : List Ent) : CallS Try.prog W 8 #[] L (fun v L' => v = .bool true ∧ L' = L) := by
  obtain ⟨bA, bB, bC, eA, lA, eB, lB, eC, lC, eD, h18, h34, g1, g2, g3, k1, k2, k3⟩ := awake_facts
  refine CallS_enter Try.func8 rfl (Nat.le_of_ble_eq_true rfl) ?_
  (repeat first|(refine isSL ?_;first|refine SL_nil ?_|(first|refine SL_skip rfl rfl ?_|(refine isBin ?_;first|refine SL_add rfl rfl (by omega) rfl rfl ?_|refine SL_sub rfl rfl (by omega) rfl rfl ?_|refine SL_pure rfl rfl rfl ?_|refine SL_eqB rfl rfl rfl rfl ?_|refine SL_neqB rfl rfl rfl rfl ?_)|(refine isLoad ?_;first|refine SL_load rfl (by (repeat first|exact m0|refine m1 ?_)) (by rfl) rfl rfl ?_|refine SL_loadA rfl (by (repeat first|exact m0|refine m1 ?_)) (by rfl) rfl rfl ?_)|(refine isFA ?_;first|refine SL_fieldElt rfl rfl rfl ?_|refine SL_fieldAddr rfl rfl rfl ?_)|(refine isLen ?_;first|refine SL_len rfl rfl rfl ?_|refine SL_lenS rfl rfl rfl ?_)|(refine isMax ?_;refine SL_max rfl rfl rfl rfl ?_)|(refine isMin ?_;refine SL_min rfl rfl rfl rfl ?_)|(refine isConv ?_;refine SL_convI64 rfl rfl rfl (by omega) rfl rfl ?_)|refine SL_nilCheck rfl rfl rfl ?_|(refine isStore ?_;first|refine SL_storeA rfl rfl rfl rfl (by (first|exact p0|exact p1 p0|exact p1 (p1 p0)|exact p1 (p1 (p1 p0))|exact p1 (p1 (p1 (p1 p0)))|exact p1 (p1 (p1 (p1 (p1 p0))))|exact p1 (p1 (p1 (p1 (p1 (p1 p0)))))|exact p1 (p1 (p1 (p1 (p1 (p1 (p1 p0))))))|exact p1 (p1 (p1 (p1 (p1 (p1 (p1 (p1 p0))))))))) (by rfl) rfl (by (first|exact fun _ => trivial|exact fun _ => s0 _|(intro _;show List.Sublist _ _;(repeat first|exact s0 _|exact s1 _|refine s2 _ ?_|refine s3 _ ?_)))) rfl ?_|refine SL_store rfl rfl rfl (by (first|exact p0|exact p1 p0|exact p1 (p1 p0)|exact p1 (p1 (p1 p0))|exact p1 (p1 (p1 (p1 p0)))|exact p1 (p1 (p1 (p1 (p1 p0))))|exact p1 (p1 (p1 (p1 (p1 (p1 p0)))))|exact p1 (p1 (p1 (p1 (p1 (p1 (p1 p0))))))|exact p1 (p1 (p1 (p1 (p1 (p1 (p1 (p1 p0))))))))) (by exact n0 rfl) rfl (by (first|exact fun _ => trivial|exact fun _ => s0 _|(intro _;show List.Sublist _ _;(repeat first|exact s0 _|exact s1 _|refine s2 _ ?_|refine s3 _ ?_)))) rfl ?_)|(refine isBox ?_;refine SL_box rfl rfl rfl rfl (fun _ => ?_))|(refine isAlloc ?_;refine SL_alloc rfl rfl rfl (fun _ => ?_))|refine SL_pure rfl rfl rfl ?_|refine SL_build rfl rfl rfl ?_|refine SL_makeFunc rfl rfl ?_))|(refine isSC ?_;first|refine SC_seq ?_|refine SC_region ?_|refine SC_block ?_|refine SC_skip ?_|refine SC_exit ?_))
  refine SL_call rfl Try.call11 (setN_spec W _ none 0 0 17 [] bA (-1) 5 7 16 eA rfl lA.symm (by decide) (fun _ _ => Rd_nil)) rfl rfl ?_
  rintro _ _ ⟨A1, c1, rfl, rfl⟩
  (repeat first|(refine isSL ?_;first|refine SL_nil ?_|(first|refine SL_skip rfl rfl ?_|(refine isBin ?_;first|refine SL_add rfl rfl (by omega) rfl rfl ?_|refine SL_sub rfl rfl (by omega) rfl rfl ?_|refine SL_pure rfl rfl rfl ?_|refine SL_eqB rfl rfl rfl rfl ?_|refine SL_neqB rfl rfl rfl rfl ?_)|(refine isLoad ?_;first|refine SL_load rfl (by (repeat first|exact m0|refine m1 ?_)) (by rfl) rfl rfl ?_|refine SL_loadA rfl (by (repeat first|exact m0|refine m1 ?_)) (by rfl) rfl rfl ?_)|(refine isFA ?_;first|refine SL_fieldElt rfl rfl rfl ?_|refine SL_fieldAddr rfl rfl rfl ?_)|(refine isLen ?_;first|refine SL_len rfl rfl rfl ?_|refine SL_lenS rfl rfl rfl ?_)|(refine isMax ?_;refine SL_max rfl rfl rfl rfl ?_)|(refine isMin ?_;refine SL_min rfl rfl rfl rfl ?_)|(refine isConv ?_;refine SL_convI64 rfl rfl rfl (by omega) rfl rfl ?_)|refine SL_nilCheck rfl rfl rfl ?_|(refine isStore ?_;first|refine SL_storeA rfl rfl rfl rfl (by (first|exact p0|exact p1 p0|exact p1 (p1 p0)|exact p1 (p1 (p1 p0))|exact p1 (p1 (p1 (p1 p0)))|exact p1 (p1 (p1 (p1 (p1 p0))))|exact p1 (p1 (p1 (p1 (p1 (p1 p0)))))|exact p1 (p1 (p1 (p1 (p1 (p1 (p1 p0))))))|exact p1 (p1 (p1 (p1 (p1 (p1 (p1 (p1 p0))))))))) (by rfl) rfl (by (first|exact fun _ => trivial|exact fun _ => s0 _|(intro _;show List.Sublist _ _;(repeat first|exact s0 _|exact s1 _|refine s2 _ ?_|refine s3 _ ?_)))) rfl ?_|refine SL_store rfl rfl rfl (by (first|exact p0|exact p1 p0|exact p1 (p1 p0)|exact p1 (p1 (p1 p0))|exact p1 (p1 (p1 (p1 p0)))|exact p1 (p1 (p1 (p1 (p1 p0))))|exact p1 (p1 (p1 (p1 (p1 (p1 p0)))))|exact p1 (p1 (p1 (p1 (p1 (p1 (p1 p0))))))|exact p1 (p1 (p1 (p1 (p1 (p1 (p1 (p1 p0))))))))) (by exact n0 rfl) rfl (by (first|exact fun _ => trivial|exact fun _ => s0 _|(intro _;show List.Sublist _ _;(repeat first|exact s0 _|exact s1 _|refine s2 _ ?_|refine s3 _ ?_)))) rfl ?_)|(refine isBox ?_;refine SL_box rfl rfl rfl rfl (fun _ => ?_))|(refine isAlloc ?_;refine SL_alloc rfl rfl rfl (fun _ => ?_))|refine SL_pure rfl rfl rfl ?_|refine SL_build rfl rfl rfl ?_|refine SL_makeFunc rfl rfl ?_))|(refine isSC ?_;first|refine SC_seq ?_|refine SC_region ?_|refine SC_block ?_|refine SC_skip ?_|refine SC_exit ?_))
  refine SL_call rfl Try.call11 (setN_spec W _ A1 c1 17 34 bA bB 16 4 8 33 eB lA.symm lB.symm (by omega) (rowT_Rd (e := 50) (c := c1) (by (repeat first|exact m0|refine m1 ?_)))) rfl rfl ?_
  rintro _ _ ⟨A2, c2, rfl, rfl⟩
  (repeat first|(refine isSL ?_;first|refine SL_nil ?_|(first|refine SL_skip rfl rfl ?_|(refine isBin ?_;first|refine SL_add rfl rfl (by omega) rfl rfl ?_|refine SL_sub rfl rfl (by omega) rfl rfl ?_|refine SL_pure rfl rfl rfl ?_|refine SL_eqB rfl rfl rfl rfl ?_|refine SL_neqB rfl rfl rfl rfl ?_)|(refine isLoad ?_;first|refine SL_load rfl (by (repeat first|exact m0|refine m1 ?_)) (by rfl) rfl rfl ?_|refine SL_loadA rfl (by (repeat first|exact m0|refine m1 ?_)) (by rfl) rfl rfl ?_)|(refine isFA ?_;first|refine SL_fieldElt rfl rfl rfl ?_|refine SL_fieldAddr rfl rfl rfl ?_)|(refine isLen ?_;first|refine SL_len rfl rfl rfl ?_|refine SL_lenS rfl rfl rfl ?_)|(refine isMax ?_;refine SL_max rfl rfl rfl rfl ?_)|(refine isMin ?_;refine SL_min rfl rfl rfl rfl ?_)|(refine isConv ?_;refine SL_convI64 rfl rfl rfl (by omega) rfl rfl ?_)|refine SL_nilCheck rfl rfl rfl ?_|(refine isStore ?_;first|refine SL_storeA rfl rfl rfl rfl (by (first|exact p0|exact p1 p0|exact p1 (p1 p0)|exact p1 (p1 (p1 p0))|exact p1 (p1 (p1 (p1 p0)))|exact p1 (p1 (p1 (p1 (p1 p0))))|exact p1 (p1 (p1 (p1 (p1 (p1 p0)))))|exact p1 (p1 (p1 (p1 (p1 (p1 (p1 p0))))))|exact p1 (p1 (p1 (p1 (p1 (p1 (p1 (p1 p0))))))))) (by rfl) rfl (by (first|exact fun _ => trivial|exact fun _ => s0 _|(intro _;show List.Sublist _ _;(repeat first|exact s0 _|exact s1 _|refine s2 _ ?_|refine s3 _ ?_)))) rfl ?_|refine SL_store rfl rfl rfl (by (first|exact p0|exact p1 p0|exact p1 (p1 p0)|exact p1 (p1 (p1 p0))|exact p1 (p1 (p1 (p1 p0)))|exact p1 (p1 (p1 (p1 (p1 p0))))|exact p1 (p1 (p1 (p1 (p1 (p1 p0)))))|exact p1 (p1 (p1 (p1 (p1 (p1 (p1 p0))))))|exact p1 (p1 (p1 (p1 (p1 (p1 (p1 (p1 p0))))))))) (by exact n0 rfl) rfl (by (first|exact fun _ => trivial|exact fun _ => s0 _|(intro _;show List.Sublist _ _;(repeat first|exact s0 _|exact s1 _|refine s2 _ ?_|refine s3 _ ?_)))) rfl ?_)|(refine isBox ?_;refine SL_box rfl rfl rfl rfl (fun _ => ?_))|(refine isAlloc ?_;refine SL_alloc rfl rfl rfl (fun _ => ?_))|refine SL_pure rfl rfl rfl ?_|refine SL_build rfl rfl rfl ?_|refine SL_makeFunc rfl rfl ?_))|(refine isSC ?_;first|refine SC_seq ?_|refine SC_region ?_|refine SC_block ?_|refine SC_skip ?_|refine SC_exit ?_))
  refine SL_call rfl Try.call13 (delN_spec W _ A2 c2 34 50 bB bC 33 5 49 eC lB.symm lC.symm (by omega) (rowT_Rd (e := 50) (c := c2) (by (repeat first|exact m0|refine m1 ?_)))) rfl rfl ?_
  rintro _ _ ⟨A3, c3, rfl, rfl⟩
  (repeat first|(refine isSL ?_;first|refine SL_nil ?_|(first|refine SL_skip rfl rfl ?_|(refine isBin ?_;first|refine SL_add rfl rfl (by omega) rfl rfl ?_|refine SL_sub rfl rfl (by omega) rfl rfl ?_|refine SL_pure rfl rfl rfl ?_|refine SL_eqB rfl rfl rfl rfl ?_|refine SL_neqB rfl rfl rfl rfl ?_)|(refine isLoad ?_;first|refine SL_load rfl (by (repeat first|exact m0|refine m1 ?_)) (by rfl) rfl rfl ?_|refine SL_loadA rfl (by (repeat first|exact m0|refine m1 ?_)) (by rfl) rfl rfl ?_)|(refine isFA ?_;first|refine SL_fieldElt rfl rfl rfl ?_|refine SL_fieldAddr rfl rfl rfl ?_)|(refine isLen ?_;first|refine SL_len rfl rfl rfl ?_|refine SL_lenS rfl rfl rfl ?_)|(refine isMax ?_;refine SL_max rfl rfl rfl rfl ?_)|(refine isMin ?_;refine SL_min rfl rfl rfl rfl ?_)|(refine isConv ?_;refine SL_convI64 rfl rfl rfl (by omega) rfl rfl ?_)|refine SL_nilCheck rfl rfl rfl ?_|(refine isStore ?_;first|refine SL_storeA rfl rfl rfl rfl (by (first|exact p0|exact p1 p0|exact p1 (p1 p0)|exact p1 (p1 (p1 p0))|exact p1 (p1 (p1 (p1 p0)))|exact p1 (p1 (p1 (p1 (p1 p0))))|exact p1 (p1 (p1 (p1 (p1 (p1 p0)))))|exact p1 (p1 (p1 (p1 (p1 (p1 (p1 p0))))))|exact p1 (p1 (p1 (p1 (p1 (p1 (p1 (p1 p0))))))))) (by rfl) rfl (by (first|exact fun _ => trivial|exact fun _ => s0 _|(intro _;show List.Sublist _ _;(repeat first|exact s0 _|exact s1 _|refine s2 _ ?_|refine s3 _ ?_)))) rfl ?_|refine SL_store rfl rfl rfl (by (first|exact p0|exact p1 p0|exact p1 (p1 p0)|exact p1 (p1 (p1 p0))|exact p1 (p1 (p1 (p1 p0)))|exact p1 (p1 (p1 (p1 (p1 p0))))|exact p1 (p1 (p1 (p1 (p1 (p1 p0)))))|exact p1 (p1 (p1 (p1 (p1 (p1 (p1 p0))))))|exact p1 (p1 (p1 (p1 (p1 (p1 (p1 (p1 p0))))))))) (by exact n0 rfl) rfl (by (first|exact fun _ => trivial|exact fun _ => s0 _|(intro _;show List.Sublist _ _;(repeat first|exact s0 _|exact s1 _|refine s2 _ ?_|refine s3 _ ?_)))) rfl ?_)|(refine isBox ?_;refine SL_box rfl rfl rfl rfl (fun _ => ?_))|(refine isAlloc ?_;refine SL_alloc rfl rfl rfl (fun _ => ?_))|refine SL_pure rfl rfl rfl ?_|refine SL_build rfl rfl rfl ?_|refine SL_makeFunc rfl rfl ?_))|(refine isSC ?_;first|refine SC_seq ?_|refine SC_region ?_|refine SC_block ?_|refine SC_skip ?_|refine SC_exit ?_))
  refine SL_call rfl Try.call13 (delN_spec W _ A3 c3 50 50 bC bC 49 4 (-1) eD lC.symm lC.symm (by omega) (rowT_Rd (e := 50) (c := c3) (by (repeat first|exact m0|refine m1 ?_)))) rfl rfl ?_
  rintro _ _ ⟨A4, c4, rfl, rfl⟩
  (repeat first|(refine isSL ?_;first|refine SL_nil ?_|(first|refine SL_skip rfl rfl ?_|(refine isBin ?_;first|refine SL_add rfl rfl (by omega) rfl rfl ?_|refine SL_sub rfl rfl (by omega) rfl rfl ?_|refine SL_pure rfl rfl rfl ?_|refine SL_eqB rfl rfl rfl rfl ?_|refine SL_neqB rfl rfl rfl rfl ?_)|(refine isLoad ?_;first|refine SL_load rfl (by (repeat first|exact m0|refine m1 ?_)) (by rfl) rfl rfl ?_|refine SL_loadA rfl (by (repeat first|exact m0|refine m1 ?_)) (by rfl) rfl rfl ?_)|(refine isFA ?_;first|refine SL_fieldElt rfl rfl rfl ?_|refine SL_fieldAddr rfl rfl rfl ?_)|(refine isLen ?_;first|refine SL_len rfl rfl rfl ?_|refine SL_lenS rfl rfl rfl ?_)|(refine isMax ?_;refine SL_max rfl rfl rfl rfl ?_)|(refine isMin ?_;refine SL_min rfl rfl rfl rfl ?_)|(refine isConv ?_;refine SL_convI64 rfl rfl rfl (by omega) rfl rfl ?_)|refine SL_nilCheck rfl rfl rfl ?_|(refine isStore ?_;first|refine SL_storeA rfl rfl rfl rfl (by (first|exact p0|exact p1 p0|exact p1 (p1 p0)|exact p1 (p1 (p1 p0))|exact p1 (p1 (p1 (p1 p0)))|exact p1 (p1 (p1 (p1 (p1 p0))))|exact p1 (p1 (p1 (p1 (p1 (p1 p0)))))|exact p1 (p1 (p1 (p1 (p1 (p1 (p1 p0))))))|exact p1 (p1 (p1 (p1 (p1 (p1 (p1 (p1 p0))))))))) (by rfl) rfl (by (first|exact fun _ => trivial|exact fun _ => s0 _|(intro _;show List.Sublist _ _;(repeat first|exact s0 _|exact s1 _|refine s2 _ ?_|refine s3 _ ?_)))) rfl ?_|refine SL_store rfl rfl rfl (by (first|exact p0|exact p1 p0|exact p1 (p1 p0)|exact p1 (p1 (p1 p0))|exact p1 (p1 (p1 (p1 p0)))|exact p1 (p1 (p1 (p1 (p1 p0))))|exact p1 (p1 (p1 (p1 (p1 (p1 p0)))))|exact p1 (p1 (p1 (p1 (p1 (p1 (p1 p0))))))|exact p1 (p1 (p1 (p1 (p1 (p1 (p1 (p1 p0))))))))) (by exact n0 rfl) rfl (by (first|exact fun _ => trivial|exact fun _ => s0 _|(intro _;show List.Sublist _ _;(repeat first|exact s0 _|exact s1 _|refine s2 _ ?_|refine s3 _ ?_)))) rfl ?_)|(refine isBox ?_;refine SL_box rfl rfl rfl rfl (fun _ => ?_))|(refine isAlloc ?_;refine SL_alloc rfl rfl rfl (fun _ => ?_))|refine SL_pure rfl rfl rfl ?_|refine SL_build rfl rfl rfl ?_|refine SL_makeFunc rfl rfl ?_))|(refine isSC ?_;first|refine SC_seq ?_|refine SC_region ?_|refine SC_block ?_|refine SC_skip ?_|refine SC_exit ?_))
  refine SL_callQ _ rfl Try.call9 (getN_spec W _ A3 c3 50 bC 33 5 7 true (by rw [g1]; rfl) lC.symm (by omega) (rowT_Rd (e := 50) (c := c3) (by (repeat first|exact m0|refine m1 ?_)))) rfl rfl ?_
  (repeat first|(refine isSL ?_;first|refine SL_nil ?_|(first|refine SL_skip rfl rfl ?_|(refine isBin ?_;first|refine SL_add rfl rfl (by omega) rfl rfl ?_|refine SL_sub rfl rfl (by omega) rfl rfl ?_|refine SL_pure rfl rfl rfl ?_|refine SL_eqB rfl rfl rfl rfl ?_|refine SL_neqB rfl rfl rfl rfl ?_)|(refine isLoad ?_;first|refine SL_load rfl (by (repeat first|exact m0|refine m1 ?_)) (by rfl) rfl rfl ?_|refine SL_loadA rfl (by (repeat first|exact m0|refine m1 ?_)) (by rfl) rfl rfl ?_)|(refine isFA ?_;first|refine SL_fieldElt rfl rfl rfl ?_|refine SL_fieldAddr rfl rfl rfl ?_)|(refine isLen ?_;first|refine SL_len rfl rfl rfl ?_|refine SL_lenS rfl rfl rfl ?_)|(refine isMax ?_;refine SL_max rfl rfl rfl rfl ?_)|(refine isMin ?_;refine SL_min rfl rfl rfl rfl ?_)|(refine isConv ?_;refine SL_convI64 rfl rfl rfl (by omega) rfl rfl ?_)|refine SL_nilCheck rfl rfl rfl ?_|(refine isStore ?_;first|refine SL_storeA rfl rfl rfl rfl (by (first|exact p0|exact p1 p0|exact p1 (p1 p0)|exact p1 (p1 (p1 p0))|exact p1 (p1 (p1 (p1 p0)))|exact p1 (p1 (p1 (p1 (p1 p0))))|exact p1 (p1 (p1 (p1 (p1 (p1 p0)))))|exact p1 (p1 (p1 (p1 (p1 (p1 (p1 p0))))))|exact p1 (p1 (p1 (p1 (p1 (p1 (p1 (p1 p0))))))))) (by rfl) rfl (by (first|exact fun _ => trivial|exact fun _ => s0 _|(intro _;show List.Sublist _ _;(repeat first|exact s0 _|exact s1 _|refine s2 _ ?_|refine s3 _ ?_)))) rfl ?_|refine SL_store rfl rfl rfl (by (first|exact p0|exact p1 p0|exact p1 (p1 p0)|exact p1 (p1 (p1 p0))|exact p1 (p1 (p1 (p1 p0)))|exact p1 (p1 (p1 (p1 (p1 p0))))|exact p1 (p1 (p1 (p1 (p1 (p1 p0)))))|exact p1 (p1 (p1 (p1 (p1 (p1 (p1 p0))))))|exact p1 (p1 (p1 (p1 (p1 (p1 (p1 (p1 p0))))))))) (by exact n0 rfl) rfl (by (first|exact fun _ => trivial|exact fun _ => s0 _|(intro _;show List.Sublist _ _;(repeat first|exact s0 _|exact s1 _|refine s2 _ ?_|refine s3 _ ?_)))) rfl ?_)|(refine isBox ?_;refine SL_box rfl rfl rfl rfl (fun _ => ?_))|(refine isAlloc ?_;refine SL_alloc rfl rfl rfl (fun _ => ?_))|refine SL_pure rfl rfl rfl ?_|refine SL_build rfl rfl rfl ?_|refine SL_makeFunc rfl rfl ?_))|(refine isSC ?_;first|refine SC_seq ?_|refine SC_region ?_|refine SC_block ?_|refine SC_skip ?_|refine SC_exit ?_))
  refine SL_callQ _ rfl Try.call9 (getN_spec W _ A3 c3 50 bC 49 5 0 false (by rw [g2]; rfl) lC.symm (by omega) (rowT_Rd (e := 50) (c := c3) (by (repeat first|exact m0|refine m1 ?_)))) rfl rfl ?_
  (repeat first|(refine isSL ?_;first|refine SL_nil ?_|(first|refine SL_skip rfl rfl ?_|(refine isBin ?_;first|refine SL_add rfl rfl (by omega) rfl rfl ?_|refine SL_sub rfl rfl (by omega) rfl rfl ?_|refine SL_pure rfl rfl rfl ?_|refine SL_eqB rfl rfl rfl rfl ?_|refine SL_neqB rfl rfl rfl rfl ?_)|(refine isLoad ?_;first|refine SL_load rfl (by (repeat first|exact m0|refine m1 ?_)) (by rfl) rfl rfl ?_|refine SL_loadA rfl (by (repeat first|exact m0|refine m1 ?_)) (by rfl) rfl rfl ?_)|(refine isFA ?_;first|refine SL_fieldElt rfl rfl rfl ?_|refine SL_fieldAddr rfl rfl rfl ?_)|(refine isLen ?_;first|refine SL_len rfl rfl rfl ?_|refine SL_lenS rfl rfl rfl ?_)|(refine isMax ?_;refine SL_max rfl rfl rfl rfl ?_)|(refine isMin ?_;refine SL_min rfl rfl rfl rfl ?_)|(refine isConv ?_;refine SL_convI64 rfl rfl rfl (by omega) rfl rfl ?_)|refine SL_nilCheck rfl rfl rfl ?_|(refine isStore ?_;first|refine SL_storeA rfl rfl rfl rfl (by (first|exact p0|exact p1 p0|exact p1 (p1 p0)|exact p1 (p1 (p1 p0))|exact p1 (p1 (p1 (p1 p0)))|exact p1 (p1 (p1 (p1 (p1 p0))))|exact p1 (p1 (p1 (p1 (p1 (p1 p0)))))|exact p1 (p1 (p1 (p1 (p1 (p1 (p1 p0))))))|exact p1 (p1 (p1 (p1 (p1 (p1 (p1 (p1 p0))))))))) (by rfl) rfl (by (first|exact fun _ => trivial|exact fun _ => s0 _|(intro _;show List.Sublist _ _;(repeat first|exact s0 _|exact s1 _|refine s2 _ ?_|refine s3 _ ?_)))) rfl ?_|refine SL_store rfl rfl rfl (by (first|exact p0|exact p1 p0|exact p1 (p1 p0)|exact p1 (p1 (p1 p0))|exact p1 (p1 (p1 (p1 p0)))|exact p1 (p1 (p1 (p1 (p1 p0))))|exact p1 (p1 (p1 (p1 (p1 (p1 p0)))))|exact p1 (p1 (p1 (p1 (p1 (p1 (p1 p0))))))|exact p1 (p1 (p1 (p1 (p1 (p1 (p1 (p1 p0))))))))) (by exact n0 rfl) rfl (by (first|exact fun _ => trivial|exact fun _ => s0 _|(intro _;show List.Sublist _ _;(repeat first|exact s0 _|exact s1 _|refine s2 _ ?_|refine s3 _ ?_)))) rfl ?_)|(refine isBox ?_;refine SL_box rfl rfl rfl rfl (fun _ => ?_))|(refine isAlloc ?_;refine SL_alloc rfl rfl rfl (fun _ => ?_))|refine SL_pure rfl rfl rfl ?_|refine SL_build rfl rfl rfl ?_|refine SL_makeFunc rfl rfl ?_))|(refine isSC ?_;first|refine SC_seq ?_|refine SC_region ?_|refine SC_block ?_|refine SC_skip ?_|refine SC_exit ?_))
  refine SL_callQ _ rfl Try.call9 (getN_spec W _ A4 c4 50 bC 49 4 8 true (by rw [g3]; rfl) lC.symm (by omega) (rowT_Rd (e := 50) (c := c4) (by (repeat first|exact m0|refine m1 ?_)))) rfl rfl ?_
  (repeat first|(refine isSL ?_;first|refine SL_nil ?_|(first|refine SL_skip rfl rfl ?_|(refine isBin ?_;first|refine SL_add rfl rfl (by omega) rfl rfl ?_|refine SL_sub rfl rfl (by omega) rfl rfl ?_|refine SL_pure rfl rfl rfl ?_|refine SL_eqB rfl rfl rfl rfl ?_|refine SL_neqB rfl rfl rfl rfl ?_)|(refine isLoad ?_;first|refine SL_load rfl (by (repeat first|exact m0|refine m1 ?_)) (by rfl) rfl rfl ?_|refine SL_loadA rfl (by (repeat first|exact m0|refine m1 ?_)) (by rfl) rfl rfl ?_)|(refine isFA ?_;first|refine SL_fieldElt rfl rfl rfl ?_|refine SL_fieldAddr rfl rfl rfl ?_)|(refine isLen ?_;first|refine SL_len rfl rfl rfl ?_|refine SL_lenS rfl rfl rfl ?_)|(refine isMax ?_;refine SL_max rfl rfl rfl rfl ?_)|(refine isMin ?_;refine SL_min rfl rfl rfl rfl ?_)|(refine isConv ?_;refine SL_convI64 rfl rfl rfl (by omega) rfl rfl ?_)|refine SL_nilCheck rfl rfl rfl ?_|(refine isStore ?_;first|refine SL_storeA rfl rfl rfl rfl (by (first|exact p0|exact p1 p0|exact p1 (p1 p0)|exact p1 (p1 (p1 p0))|exact p1 (p1 (p1 (p1 p0)))|exact p1 (p1 (p1 (p1 (p1 p0))))|exact p1 (p1 (p1 (p1 (p1 (p1 p0)))))|exact p1 (p1 (p1 (p1 (p1 (p1 (p1 p0))))))|exact p1 (p1 (p1 (p1 (p1 (p1 (p1 (p1 p0))))))))) (by rfl) rfl (by (first|exact fun _ => trivial|exact fun _ => s0 _|(intro _;show List.Sublist _ _;(repeat first|exact s0 _|exact s1 _|refine s2 _ ?_|refine s3 _ ?_)))) rfl ?_|refine SL_store rfl rfl rfl (by (first|exact p0|exact p1 p0|exact p1 (p1 p0)|exact p1 (p1 (p1 p0))|exact p1 (p1 (p1 (p1 p0)))|exact p1 (p1 (p1 (p1 (p1 p0))))|exact p1 (p1 (p1 (p1 (p1 (p1 p0)))))|exact p1 (p1 (p1 (p1 (p1 (p1 (p1 p0))))))|exact p1 (p1 (p1 (p1 (p1 (p1 (p1 (p1 p0))))))))) (by exact n0 rfl) rfl (by (first|exact fun _ => trivial|exact fun _ => s0 _|(intro _;show List.Sublist _ _;(repeat first|exact s0 _|exact s1 _|refine s2 _ ?_|refine s3 _ ?_)))) rfl ?_)|(refine isBox ?_;refine SL_box rfl rfl rfl rfl (fun _ => ?_))|(refine isAlloc ?_;refine SL_alloc rfl rfl rfl (fun _ => ?_))|refine SL_pure rfl rfl rfl ?_|refine SL_build rfl rfl rfl ?_|refine SL_makeFunc rfl rfl ?_))|(refine isSC ?_;first|refine SC_seq ?_|refine SC_region ?_|refine SC_block ?_|refine SC_skip ?_|refine SC_exit ?_))
  refine SL_buildSlice (cs := nmC 33) (Nat.le_of_ble_eq_true rfl) (by rfl) (by rfl) rfl rfl rfl (fun g7 => ?_)
  refine SL_callQ _ rfl Try.call19 (liveN_spec W _ A2 (some ⟨g7, 0, none⟩) c2 1 34 1 bB [33] 18 h18 lB.symm rfl (by omega) (by decide) (rowT_Rd (e := 50) (c := c2) (by (repeat first|exact m0|refine m1 ?_))) (blk_Rd (g := g7) (t := 3) (cs := nmC 33) (by (repeat first|exact m0|refine m1 ?_)) rfl)) rfl rfl ?_
  (repeat first|(refine isSL ?_;first|refine SL_nil ?_|(first|refine SL_skip rfl rfl ?_|(refine isBin ?_;first|refine SL_add rfl rfl (by omega) rfl rfl ?_|refine SL_sub rfl rfl (by omega) rfl rfl ?_|refine SL_pure rfl rfl rfl ?_|refine SL_eqB rfl rfl rfl rfl ?_|refine SL_neqB rfl rfl rfl rfl ?_)|(refine isLoad ?_;first|refine SL_load rfl (by (repeat first|exact m0|refine m1 ?_)) (by rfl) rfl rfl ?_|refine SL_loadA rfl (by (repeat first|exact m0|refine m1 ?_)) (by rfl) rfl rfl ?_)|(refine isFA ?_;first|refine SL_fieldElt rfl rfl rfl ?_|refine SL_fieldAddr rfl rfl rfl ?_)|(refine isLen ?_;first|refine SL_len rfl rfl rfl ?_|refine SL_lenS rfl rfl rfl ?_)|(refine isMax ?_;refine SL_max rfl rfl rfl rfl ?_)|(refine isMin ?_;refine SL_min rfl rfl rfl rfl ?_)|(refine isConv ?_;refine SL_convI64 rfl rfl rfl (by omega) rfl rfl ?_)|refine SL_nilCheck rfl rfl rfl ?_|(refine isStore ?_;first|refine SL_storeA rfl rfl rfl rfl (by (first|exact p0|exact p1 p0|exact p1 (p1 p0)|exact p1 (p1 (p1 p0))|exact p1 (p1 (p1 (p1 p0)))|exact p1 (p1 (p1 (p1 (p1 p0))))|exact p1 (p1 (p1 (p1 (p1 (p1 p0)))))|exact p1 (p1 (p1 (p1 (p1 (p1 (p1 p0))))))|exact p1 (p1 (p1 (p1 (p1 (p1 (p1 (p1 p0))))))))) (by rfl) rfl (by (first|exact fun _ => trivial|exact fun _ => s0 _|(intro _;show List.Sublist _ _;(repeat first|exact s0 _|exact s1 _|refine s2 _ ?_|refine s3 _ ?_)))) rfl ?_|refine SL_store rfl rfl rfl (by (first|exact p0|exact p1 p0|exact p1 (p1 p0)|exact p1 (p1 (p1 p0))|exact p1 (p1 (p1 (p1 p0)))|exact p1 (p1 (p1 (p1 (p1 p0))))|exact p1 (p1 (p1 (p1 (p1 (p1 p0)))))|exact p1 (p1 (p1 (p1 (p1 (p1 (p1 p0))))))|exact p1 (p1 (p1 (p1 (p1 (p1 (p1 (p1 p0))))))))) (by exact n0 rfl) rfl (by (first|exact fun _ => trivial|exact fun _ => s0 _|(intro _;show List.Sublist _ _;(repeat first|exact s0 _|exact s1 _|refine s2 _ ?_|refine s3 _ ?_)))) rfl ?_)|(refine isBox ?_;refine SL_box rfl rfl rfl rfl (fun _ => ?_))|(refine isAlloc ?_;refine SL_alloc rfl rfl rfl (fun _ => ?_))|refine SL_pure rfl rfl rfl ?_|refine SL_build rfl rfl rfl ?_|refine SL_makeFunc rfl rfl ?_))|(refine isSC ?_;first|refine SC_seq ?_|refine SC_region ?_|refine SC_block ?_|refine SC_skip ?_|refine SC_exit ?_))
  refine SL_buildSlice (cs := nmC 16 ++ nmC 33) (Nat.le_of_ble_eq_true rfl) (by rfl) (by rfl) rfl rfl rfl (fun g8 => ?_)
  refine SL_callQ _ rfl Try.call19 (liveN_spec W _ A2 (some ⟨g8, 0, none⟩) c2 2 34 2 bB [16, 33] 34 h34 lB.symm rfl (by omega) (by decide) (rowT_Rd (e := 50) (c := c2) (by (repeat first|exact m0|refine m1 ?_))) (blk_Rd (g := g8) (t := 3) (cs := nmC 16 ++ nmC 33) (by (repeat first|exact m0|refine m1 ?_)) rfl)) rfl rfl ?_
  (repeat first|(refine isSL ?_;first|refine SL_nil ?_|(first|refine SL_skip rfl rfl ?_|(refine isBin ?_;first|refine SL_add rfl rfl (by omega) rfl rfl ?_|refine SL_sub rfl rfl (by omega) rfl rfl ?_|refine SL_pure rfl rfl rfl ?_|refine SL_eqB rfl rfl rfl rfl ?_|refine SL_neqB rfl rfl rfl rfl ?_)|(refine isLoad ?_;first|refine SL_load rfl (by (repeat first|exact m0|refine m1 ?_)) (by rfl) rfl rfl ?_|refine SL_loadA rfl (by (repeat first|exact m0|refine m1 ?_)) (by rfl) rfl rfl ?_)|(refine isFA ?_;first|refine SL_fieldElt rfl rfl rfl ?_|refine SL_fieldAddr rfl rfl rfl ?_)|(refine isLen ?_;first|refine SL_len rfl rfl rfl ?_|refine SL_lenS rfl rfl rfl ?_)|(refine isMax ?_;refine SL_max rfl rfl rfl rfl ?_)|(refine isMin ?_;refine SL_min rfl rfl rfl rfl ?_)|(refine isConv ?_;refine SL_convI64 rfl rfl rfl (by omega) rfl rfl ?_)|refine SL_nilCheck rfl rfl rfl ?_|(refine isStore ?_;first|refine SL_storeA rfl rfl rfl rfl (by (first|exact p0|exact p1 p0|exact p1 (p1 p0)|exact p1 (p1 (p1 p0))|exact p1 (p1 (p1 (p1 p0)))|exact p1 (p1 (p1 (p1 (p1 p0))))|exact p1 (p1 (p1 (p1 (p1 (p1 p0)))))|exact p1 (p1 (p1 (p1 (p1 (p1 (p1 p0))))))|exact p1 (p1 (p1 (p1 (p1 (p1 (p1 (p1 p0))))))))) (by rfl) rfl (by (first|exact fun _ => trivial|exact fun _ => s0 _|(intro _;show List.Sublist _ _;(repeat first|exact s0 _|exact s1 _|refine s2 _ ?_|refine s3 _ ?_)))) rfl ?_|refine SL_store rfl rfl rfl (by (first|exact p0|exact p1 p0|exact p1 (p1 p0)|exact p1 (p1 (p1 p0))|exact p1 (p1 (p1 (p1 p0)))|exact p1 (p1 (p1 (p1 (p1 p0))))|exact p1 (p1 (p1 (p1 (p1 (p1 p0)))))|exact p1 (p1 (p1 (p1 (p1 (p1 (p1 p0))))))|exact p1 (p1 (p1 (p1 (p1 (p1 (p1 (p1 p0))))))))) (by exact n0 rfl) rfl (by (first|exact fun _ => trivial|exact fun _ => s0 _|(intro _;show List.Sublist _ _;(repeat first|exact s0 _|exact s1 _|refine s2 _ ?_|refine s3 _ ?_)))) rfl ?_)|(refine isBox ?_;refine SL_box rfl rfl rfl rfl (fun _ => ?_))|(refine isAlloc ?_;refine SL_alloc rfl rfl rfl (fun _ => ?_))|refine SL_pure rfl rfl rfl ?_|refine SL_build rfl rfl rfl ?_|refine SL_makeFunc rfl rfl ?_))|(refine isSC ?_;first|refine SC_seq ?_|refine SC_region ?_|refine SC_block ?_|refine SC_skip ?_|refine SC_exit ?_))
  refine SL_call rfl Try.call17 (keysN_spec W _ A4 c4 50 2 bC 33 [4, 5] k1 lC.symm rfl (by omega) (rowT_Rd (e := 50) (c := c4) (by (repeat first|exact m0|refine m1 ?_)))) rfl rfl ?_
  rintro _ _ ⟨A5, c5, rfl, rfl⟩
  (repeat first|(refine isSL ?_;first|refine SL_nil ?_|(first|refine SL_skip rfl rfl ?_|(refine isBin ?_;first|refine SL_add rfl rfl (by omega) rfl rfl ?_|refine SL_sub rfl rfl (by omega) rfl rfl ?_|refine SL_pure rfl rfl rfl ?_|refine SL_eqB rfl rfl rfl rfl ?_|refine SL_neqB rfl rfl rfl rfl ?_)|(refine isLoad ?_;first|refine SL_load rfl (by (repeat first|exact m0|refine m1 ?_)) (by rfl) rfl rfl ?_|refine SL_loadA rfl (by (repeat first|exact m0|refine m1 ?_)) (by rfl) rfl rfl ?_)|(refine isFA ?_;first|refine SL_fieldElt rfl rfl rfl ?_|refine SL_fieldAddr rfl rfl rfl ?_)|(refine isLen ?_;first|refine SL_len rfl rfl rfl ?_|refine SL_lenS rfl rfl rfl ?_)|(refine isMax ?_;refine SL_max rfl rfl rfl rfl ?_)|(refine isMin ?_;refine SL_min rfl rfl rfl rfl ?_)|(refine isConv ?_;refine SL_convI64 rfl rfl rfl (by omega) rfl rfl ?_)|refine SL_nilCheck rfl rfl rfl ?_|(refine isStore ?_;first|refine SL_storeA rfl rfl rfl rfl (by (first|exact p0|exact p1 p0|exact p1 (p1 p0)|exact p1 (p1 (p1 p0))|exact p1 (p1 (p1 (p1 p0)))|exact p1 (p1 (p1 (p1 (p1 p0))))|exact p1 (p1 (p1 (p1 (p1 (p1 p0)))))|exact p1 (p1 (p1 (p1 (p1 (p1 (p1 p0))))))|exact p1 (p1 (p1 (p1 (p1 (p1 (p1 (p1 p0))))))))) (by rfl) rfl (by (first|exact fun _ => trivial|exact fun _ => s0 _|(intro _;show List.Sublist _ _;(repeat first|exact s0 _|exact s1 _|refine s2 _ ?_|refine s3 _ ?_)))) rfl ?_|refine SL_store rfl rfl rfl (by (first|exact p0|exact p1 p0|exact p1 (p1 p0)|exact p1 (p1 (p1 p0))|exact p1 (p1 (p1 (p1 p0)))|exact p1 (p1 (p1 (p1 (p1 p0))))|exact p1 (p1 (p1 (p1 (p1 (p1 p0)))))|exact p1 (p1 (p1 (p1 (p1 (p1 (p1 p0))))))|exact p1 (p1 (p1 (p1 (p1 (p1 (p1 (p1 p0))))))))) (by exact n0 rfl) rfl (by (first|exact fun _ => trivial|exact fun _ => s0 _|(intro _;show List.Sublist _ _;(repeat first|exact s0 _|exact s1 _|refine s2 _ ?_|refine s3 _ ?_)))) rfl ?_)|(refine isBox ?_;refine SL_box rfl rfl rfl rfl (fun _ => ?_))|(refine isAlloc ?_;refine SL_alloc rfl rfl rfl (fun _ => ?_))|refine SL_pure rfl rfl rfl ?_|refine SL_build rfl rfl rfl ?_|refine SL_makeFunc rfl rfl ?_))|(refine isSC ?_;first|refine SC_seq ?_|refine SC_region ?_|refine SC_block ?_|refine SC_skip ?_|refine SC_exit ?_))
  refine SL_buildSlice (cs := nmC 4 ++ nmC 5) (Nat.le_of_ble_eq_true rfl) (by rfl) (by rfl) rfl rfl rfl (fun g9 => ?_)
  refine SL_callQ _ rfl Try.call16 (numbers_spec W _ A5 (some ⟨g9, 0, none⟩) c5 2 [4, 5] [4, 5] (by decide) (rowT_Rd (e := 3) (c := c5) (by (repeat first|exact m0|refine m1 ?_))) (blk_Rd (g := g9) (t := 3) (cs := nmC 4 ++ nmC 5) (by (repeat first|exact m0|refine m1 ?_)) rfl)) rfl rfl ?_
  rw [decide_eq_true rfl]
  (repeat first|(refine isSL ?_;first|refine SL_nil ?_|(first|refine SL_skip rfl rfl ?_|(refine isBin ?_;first|refine SL_add rfl rfl (by omega) rfl rfl ?_|refine SL_sub rfl rfl (by omega) rfl rfl ?_|refine SL_pure rfl rfl rfl ?_|refine SL_eqB rfl rfl rfl rfl ?_|refine SL_neqB rfl rfl rfl rfl ?_)|(refine isLoad ?_;first|refine SL_load rfl (by (repeat first|exact m0|refine m1 ?_)) (by rfl) rfl rfl ?_|refine SL_loadA rfl (by (repeat first|exact m0|refine m1 ?_)) (by rfl) rfl rfl ?_)|(refine isFA ?_;first|refine SL_fieldElt rfl rfl rfl ?_|refine SL_fieldAddr rfl rfl rfl ?_)|(refine isLen ?_;first|refine SL_len rfl rfl rfl ?_|refine SL_lenS rfl rfl rfl ?_)|(refine isMax ?_;refine SL_max rfl rfl rfl rfl ?_)|(refine isMin ?_;refine SL_min rfl rfl rfl rfl ?_)|(refine isConv ?_;refine SL_convI64 rfl rfl rfl (by omega) rfl rfl ?_)|refine SL_nilCheck rfl rfl rfl ?_|(refine isStore ?_;first|refine SL_storeA rfl rfl rfl rfl (by (first|exact p0|exact p1 p0|exact p1 (p1 p0)|exact p1 (p1 (p1 p0))|exact p1 (p1 (p1 (p1 p0)))|exact p1 (p1 (p1 (p1 (p1 p0))))|exact p1 (p1 (p1 (p1 (p1 (p1 p0)))))|exact p1 (p1 (p1 (p1 (p1 (p1 (p1 p0))))))|exact p1 (p1 (p1 (p1 (p1 (p1 (p1 (p1 p0))))))))) (by rfl) rfl (by (first|exact fun _ => trivial|exact fun _ => s0 _|(intro _;show List.Sublist _ _;(repeat first|exact s0 _|exact s1 _|refine s2 _ ?_|refine s3 _ ?_)))) rfl ?_|refine SL_store rfl rfl rfl (by (first|exact p0|exact p1 p0|exact p1 (p1 p0)|exact p1 (p1 (p1 p0))|exact p1 (p1 (p1 (p1 p0)))|exact p1 (p1 (p1 (p1 (p1 p0))))|exact p1 (p1 (p1 (p1 (p1 (p1 p0)))))|exact p1 (p1 (p1 (p1 (p1 (p1 (p1 p0))))))|exact p1 (p1 (p1 (p1 (p1 (p1 (p1 (p1 p0))))))))) (by exact n0 rfl) rfl (by (first|exact fun _ => trivial|exact fun _ => s0 _|(intro _;show List.Sublist _ _;(repeat first|exact s0 _|exact s1 _|refine s2 _ ?_|refine s3 _ ?_)))) rfl ?_)|(refine isBox ?_;refine SL_box rfl rfl rfl rfl (fun _ => ?_))|(refine isAlloc ?_;refine SL_alloc rfl rfl rfl (fun _ => ?_))|refine SL_pure rfl rfl rfl ?_|refine SL_build rfl rfl rfl ?_|refine SL_makeFunc rfl rfl ?_))|(refine isSC ?_;first|refine SC_seq ?_|refine SC_region ?_|refine SC_block ?_|refine SC_skip ?_|refine SC_exit ?_))
  refine SL_call rfl Try.call17 (keysN_spec W _ A4 c4 50 1 bC 49 [4] k2 lC.symm rfl (by omega) (rowT_Rd (e := 50) (c := c4) (by (repeat first|exact m0|refine m1 ?_)))) rfl rfl ?_
  rintro _ _ ⟨A6, c6, rfl, rfl⟩
  (repeat first|(refine isSL ?_;first|refine SL_nil ?_|(first|refine SL_skip rfl rfl ?_|(refine isBin ?_;first|refine SL_add rfl rfl (by omega) rfl rfl ?_|refine SL_sub rfl rfl (by omega) rfl rfl ?_|refine SL_pure rfl rfl rfl ?_|refine SL_eqB rfl rfl rfl rfl ?_|refine SL_neqB rfl rfl rfl rfl ?_)|(refine isLoad ?_;first|refine SL_load rfl (by (repeat first|exact m0|refine m1 ?_)) (by rfl) rfl rfl ?_|refine SL_loadA rfl (by (repeat first|exact m0|refine m1 ?_)) (by rfl) rfl rfl ?_)|(refine isFA ?_;first|refine SL_fieldElt rfl rfl rfl ?_|refine SL_fieldAddr rfl rfl rfl ?_)|(refine isLen ?_;first|refine SL_len rfl rfl rfl ?_|refine SL_lenS rfl rfl rfl ?_)|(refine isMax ?_;refine SL_max rfl rfl rfl rfl ?_)|(refine isMin ?_;refine SL_min rfl rfl rfl rfl ?_)|(refine isConv ?_;refine SL_convI64 rfl rfl rfl (by omega) rfl rfl ?_)|refine SL_nilCheck rfl rfl rfl ?_|(refine isStore ?_;first|refine SL_storeA rfl rfl rfl rfl (by (first|exact p0|exact p1 p0|exact p1 (p1 p0)|exact p1 (p1 (p1 p0))|exact p1 (p1 (p1 (p1 p0)))|exact p1 (p1 (p1 (p1 (p1 p0))))|exact p1 (p1 (p1 (p1 (p1 (p1 p0)))))|exact p1 (p1 (p1 (p1 (p1 (p1 (p1 p0))))))|exact p1 (p1 (p1 (p1 (p1 (p1 (p1 (p1 p0))))))))) (by rfl) rfl (by (first|exact fun _ => trivial|exact fun _ => s0 _|(intro _;show List.Sublist _ _;(repeat first|exact s0 _|exact s1 _|refine s2 _ ?_|refine s3 _ ?_)))) rfl ?_|refine SL_store rfl rfl rfl (by (first|exact p0|exact p1 p0|exact p1 (p1 p0)|exact p1 (p1 (p1 p0))|exact p1 (p1 (p1 (p1 p0)))|exact p1 (p1 (p1 (p1 (p1 p0))))|exact p1 (p1 (p1 (p1 (p1 (p1 p0)))))|exact p1 (p1 (p1 (p1 (p1 (p1 (p1 p0))))))|exact p1 (p1 (p1 (p1 (p1 (p1 (p1 (p1 p0))))))))) (by exact n0 rfl) rfl (by (first|exact fun _ => trivial|exact fun _ => s0 _|(intro _;show List.Sublist _ _;(repeat first|exact s0 _|exact s1 _|refine s2 _ ?_|refine s3 _ ?_)))) rfl ?_)|(refine isBox ?_;refine SL_box rfl rfl rfl rfl (fun _ => ?_))|(refine isAlloc ?_;refine SL_alloc rfl rfl rfl (fun _ => ?_))|refine SL_pure rfl rfl rfl ?_|refine SL_build rfl rfl rfl ?_|refine SL_makeFunc rfl rfl ?_))|(refine isSC ?_;first|refine SC_seq ?_|refine SC_region ?_|refine SC_block ?_|refine SC_skip ?_|refine SC_exit ?_))
  refine SL_buildSlice (cs := nmC 4) (Nat.le_of_ble_eq_true rfl) (by rfl) (by rfl) rfl rfl rfl (fun g10 => ?_)
  refine SL_callQ _ rfl Try.call16 (numbers_spec W _ A6 (some ⟨g10, 0, none⟩) c6 1 [4] [4] (by decide) (rowT_Rd (e := 3) (c := c6) (by (repeat first|exact m0|refine m1 ?_))) (blk_Rd (g := g10) (t := 3) (cs := nmC 4) (by (repeat first|exact m0|refine m1 ?_)) rfl)) rfl rfl ?_
  rw [decide_eq_true rfl]
  (repeat first|(refine isSL ?_;first|refine SL_nil ?_|(first|refine SL_skip rfl rfl ?_|(refine isBin ?_;first|refine SL_add rfl rfl (by omega) rfl rfl ?_|refine SL_sub rfl rfl (by omega) rfl rfl ?_|refine SL_pure rfl rfl rfl ?_|refine SL_eqB rfl rfl rfl rfl ?_|refine SL_neqB rfl rfl rfl rfl ?_)|(refine isLoad ?_;first|refine SL_load rfl (by (repeat first|exact m0|refine m1 ?_)) (by rfl) rfl rfl ?_|refine SL_loadA rfl (by (repeat first|exact m0|refine m1 ?_)) (by rfl) rfl rfl ?_)|(refine isFA ?_;first|refine SL_fieldElt rfl rfl rfl ?_|refine SL_fieldAddr rfl rfl rfl ?_)|(refine isLen ?_;first|refine SL_len rfl rfl rfl ?_|refine SL_lenS rfl rfl rfl ?_)|(refine isMax ?_;refine SL_max rfl rfl rfl rfl ?_)|(refine isMin ?_;refine SL_min rfl rfl rfl rfl ?_)|(refine isConv ?_;refine SL_convI64 rfl rfl rfl (by omega) rfl rfl ?_)|refine SL_nilCheck rfl rfl rfl ?_|(refine isStore ?_;first|refine SL_storeA rfl rfl rfl rfl (by (first|exact p0|exact p1 p0|exact p1 (p1 p0)|exact p1 (p1 (p1 p0))|exact p1 (p1 (p1 (p1 p0)))|exact p1 (p1 (p1 (p1 (p1 p0))))|exact p1 (p1 (p1 (p1 (p1 (p1 p0)))))|exact p1 (p1 (p1 (p1 (p1 (p1 (p1 p0))))))|exact p1 (p1 (p1 (p1 (p1 (p1 (p1 (p1 p0))))))))) (by rfl) rfl (by (first|exact fun _ => trivial|exact fun _ => s0 _|(intro _;show List.Sublist _ _;(repeat first|exact s0 _|exact s1 _|refine s2 _ ?_|refine s3 _ ?_)))) rfl ?_|refine SL_store rfl rfl rfl (by (first|exact p0|exact p1 p0|exact p1 (p1 p0)|exact p1 (p1 (p1 p0))|exact p1 (p1 (p1 (p1 p0)))|exact p1 (p1 (p1 (p1 (p1 p0))))|exact p1 (p1 (p1 (p1 (p1 (p1 p0)))))|exact p1 (p1 (p1 (p1 (p1 (p1 (p1 p0))))))|exact p1 (p1 (p1 (p1 (p1 (p1 (p1 (p1 p0))))))))) (by exact n0 rfl) rfl (by (first|exact fun _ => trivial|exact fun _ => s0 _|(intro _;show List.Sublist _ _;(repeat first|exact s0 _|exact s1 _|refine s2 _ ?_|refine s3 _ ?_)))) rfl ?_)|(refine isBox ?_;refine SL_box rfl rfl rfl rfl (fun _ => ?_))|(refine isAlloc ?_;refine SL_alloc rfl rfl rfl (fun _ => ?_))|refine SL_pure rfl rfl rfl ?_|refine SL_build rfl rfl rfl ?_|refine SL_makeFunc rfl rfl ?_))|(refine isSC ?_;first|refine SC_seq ?_|refine SC_region ?_|refine SC_block ?_|refine SC_skip ?_|refine SC_exit ?_))
  refine SL_call rfl Try.call17 (keysN_spec W _ A4 c4 50 0 bC (-1) [] k3 lC.symm rfl (by omega) (rowT_Rd (e := 50) (c := c4) (by (repeat first|exact m0|refine m1 ?_)))) rfl rfl ?_
  rintro _ _ ⟨A7, c7, rfl, rfl⟩
  (repeat first|(refine isSL ?_;first|refine SL_nil ?_|(first|refine SL_skip rfl rfl ?_|(refine isBin ?_;first|refine SL_add rfl rfl (by omega) rfl rfl ?_|refine SL_sub rfl rfl (by omega) rfl rfl ?_|refine SL_pure rfl rfl rfl ?_|refine SL_eqB rfl rfl rfl rfl ?_|refine SL_neqB rfl rfl rfl rfl ?_)|(refine isLoad ?_;first|refine SL_load rfl (by (repeat first|exact m0|refine m1 ?_)) (by rfl) rfl rfl ?_|refine SL_loadA rfl (by (repeat first|exact m0|refine m1 ?_)) (by rfl) rfl rfl ?_)|(refine isFA ?_;first|refine SL_fieldElt rfl rfl rfl ?_|refine SL_fieldAddr rfl rfl rfl ?_)|(refine isLen ?_;first|refine SL_len rfl rfl rfl ?_|refine SL_lenS rfl rfl rfl ?_)|(refine isMax ?_;refine SL_max rfl rfl rfl rfl ?_)|(refine isMin ?_;refine SL_min rfl rfl rfl rfl ?_)|(refine isConv ?_;refine SL_convI64 rfl rfl rfl (by omega) rfl rfl ?_)|refine SL_nilCheck rfl rfl rfl ?_|(refine isStore ?_;first|refine SL_storeA rfl rfl rfl rfl (by (first|exact p0|exact p1 p0|exact p1 (p1 p0)|exact p1 (p1 (p1 p0))|exact p1 (p1 (p1 (p1 p0)))|exact p1 (p1 (p1 (p1 (p1 p0))))|exact p1 (p1 (p1 (p1 (p1 (p1 p0)))))|exact p1 (p1 (p1 (p1 (p1 (p1 (p1 p0))))))|exact p1 (p1 (p1 (p1 (p1 (p1 (p1 (p1 p0))))))))) (by rfl) rfl (by (first|exact fun _ => trivial|exact fun _ => s0 _|(intro _;show List.Sublist _ _;(repeat first|exact s0 _|exact s1 _|refine s2 _ ?_|refine s3 _ ?_)))) rfl ?_|refine SL_store rfl rfl rfl (by (first|exact p0|exact p1 p0|exact p1 (p1 p0)|exact p1 (p1 (p1 p0))|exact p1 (p1 (p1 (p1 p0)))|exact p1 (p1 (p1 (p1 (p1 p0))))|exact p1 (p1 (p1 (p1 (p1 (p1 p0)))))|exact p1 (p1 (p1 (p1 (p1 (p1 (p1 p0))))))|exact p1 (p1 (p1 (p1 (p1 (p1 (p1 (p1 p0))))))))) (by exact n0 rfl) rfl (by (first|exact fun _ => trivial|exact fun _ => s0 _|(intro _;show List.Sublist _ _;(repeat first|exact s0 _|exact s1 _|refine s2 _ ?_|refine s3 _ ?_)))) rfl ?_)|(refine isBox ?_;refine SL_box rfl rfl rfl rfl (fun _ => ?_))|(refine isAlloc ?_;refine SL_alloc rfl rfl rfl (fun _ => ?_))|refine SL_pure rfl rfl rfl ?_|refine SL_build rfl rfl rfl ?_|refine SL_makeFunc rfl rfl ?_))|(refine isSC ?_;first|refine SC_seq ?_|refine SC_region ?_|refine SC_block ?_|refine SC_skip ?_|refine SC_exit ?_))
  refine SC_ret ?_
  exact leave1W Try.results8 (L' := L) (fun w hw => hw.sublist (by (repeat first|exact s0 _|exact s1 _|refine s2 _ ?_|refine s3 _ ?_))) ⟨rfl, rfl⟩
end Go.Proofs.Ytfcljepagnipaaa
