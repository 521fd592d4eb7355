/-
  Proved here: further rules of the walk: the greater and the lesser of two numbers; a slice asked for nil; an array's cell; a store into an element of a slice of the call's own; a slice of the call's own wiped.
-/
import Derived.Test.YtfcljepagnipaaaGun
import Derived.Lib.MinMax
namespace Go.Proofs.Ytfcljepagnipaaa
open Go.RowKit

class ArrT (P : Program) (t : Nat) (len e size : outParam Nat) : Prop where
  ul : P.underlying t = some (.array len e)
  info : ∃ i, P.info? e = some i ∧ i.size = size

section
variable {P : Program} {n : Nat} {W : World} {q : Md} {Q : Exit → St → List Ent → Prop} {σ : St} {L : List Ent} {ops : Array Oper} {rest : List Oper}
  {dst : Option Nat} {ty : TypeId} {pos : String} {aft : Array Edge} {gd : Option (Nat × Bool)} {α : Type}

theorem SL_max {x y : Operand} {t t2 : TypeId} {a b : Int} (hx : ev σ x = .int .i64 a) (hy : ev σ y = .int .i64 b)
    (hg : wantedσ ops σ ⟨dst, .call { callee := .builtin .max, args := #[x, y], argTypes := #[t, t2] }, ty, pos, aft, gd⟩ = true) (hd : dstOk n dst = true)
    (h : SL P n W q ops Q rest (updO σ dst (.int .i64 (max a b))) L) :
    SL P n W q ops Q (⟨dst, .call { callee := .builtin .max, args := #[x, y], argTypes := #[t, t2] }, ty, pos, aft, gd⟩ :: rest) σ L := by
  refine SL_valW _ (Nat.le_of_ble_eq_true rfl) hg hd (fun w => ?_) h
  simp [execOp, resolve, invoke, builtin, hx, hy, Lib.run_max_ints]
theorem SL_min {x y : Operand} {t t2 : TypeId} {a b : Int} (hx : ev σ x = .int .i64 a) (hy : ev σ y = .int .i64 b)
    (hg : wantedσ ops σ ⟨dst, .call { callee := .builtin .min, args := #[x, y], argTypes := #[t, t2] }, ty, pos, aft, gd⟩ = true) (hd : dstOk n dst = true)
    (h : SL P n W q ops Q rest (updO σ dst (.int .i64 (min a b))) L) :
    SL P n W q ops Q (⟨dst, .call { callee := .builtin .min, args := #[x, y], argTypes := #[t, t2] }, ty, pos, aft, gd⟩ :: rest) σ L := by
  refine SL_valW _ (Nat.le_of_ble_eq_true rfl) hg hd (fun w => ?_) h
  simp [execOp, resolve, invoke, builtin, hx, hy, Lib.run_min_ints]

theorem run_eqNil {t : TypeId} {A : Option Addr} {l c : Nat} {e s b : Nat} [hT : SliceT P t e s b] (w : World) : (Op.equal t (.slice A l c) (.slice none 0 0)).run P w = .ok A.isNone w := by
  rw [Op.equal, show Op.maxDepth = (Op.maxDepth - 1) + 1 from rfl, Op.equalIn]
  simp only [Sem.run_bind, run_underlying hT.ul, Result.andThen_ok]
  cases A <;> rfl

/-- 's == nil' of a slice. -/
theorem SL_eqNil {x y : Operand} {t t2 : TypeId} {A : Option Addr} {l c : Nat} {e s b : Nat} [hT : SliceT P t e s b] (hx : ev σ x = .slice A l c) (hy : ev σ y = .slice none 0 0)
    (hg : wantedσ ops σ ⟨dst, .binOp .eql t x y t2, ty, pos, aft, gd⟩ = true) (hd : dstOk n dst = true)
    (h : SL P n W q ops Q rest (updO σ dst (.bool A.isNone)) L) : SL P n W q ops Q (⟨dst, .binOp .eql t x y t2, ty, pos, aft, gd⟩ :: rest) σ L := by
  refine SL_valW _ (Nat.le_of_ble_eq_true rfl) hg hd (fun w => ?_) h
  have h1 : (eqGuard .eql t x y (.slice A l c) (.slice none 0 0)).run P w = .ok () w := rfl
  have h2 : (binOp .eql t (.slice A l c) (.slice none 0 0)).run P w = .ok (.bool A.isNone) w := by
    simp only [binOp, Sem.run_bind, run_eqNil, Result.andThen_ok, Sem.run_pure]
  simp only [execOp, hx, hy, Sem.run_bind, h1, h2, Result.andThen_ok, Sem.run_pure]

/-- The address of an array's cell. -/
theorem SL_indexArr {x ix : Operand} {t len e s : Nat} [hT : ArrT P t len e s] {g k i : Nat} (hx : ev σ x = .pointer (some ⟨g, k, none⟩)) (hi : ev σ ix = .int .i64 (i : Int)) (hlt : i < len)
    (hg : wantedσ ops σ ⟨dst, .indexAddr t x ix, ty, pos, aft, gd⟩ = true) (hd : dstOk n dst = true)
    (h : SL P n W q ops Q rest (updO σ dst (.pointer (some ⟨g, k + i * s, none⟩))) L) :
    SL P n W q ops Q (⟨dst, .indexAddr t x ix, ty, pos, aft, gd⟩ :: rest) σ L := by
  refine SL_valW _ (Nat.le_of_ble_eq_true rfl) hg hd (fun w => ?_) h
  obtain ⟨inf, hinf, hs⟩ := hT.info
  simp [execOp, hx, hi, Instr.indexAt, run_underlying hT.ul, asIntOf, sizeOf, typeInfo, hinf, hs, go_sem]
  omega

theorem flat_set {enc : α → List Value} {s : Nat} (hlen : ∀ x, (enc x).length = s) : ∀ (l : List α) (i j : Nat) (y y' : α) (v : Value), l[i]? = some y → enc y' = (enc y).set j v → j < s → (l.set i y').flatMap enc = (l.flatMap enc).set (i * s + j) v
  | [], i, j, y, y', v, hi, _, _ => by simp at hi
  | x :: r, 0, j, y, y', v, hi, hy, hj => by
    have hx : x = y := by simpa using hi
    subst hx
    rw [List.set_cons_zero, List.flatMap_cons, List.flatMap_cons, hy, Nat.zero_mul, Nat.zero_add, List.set_append, if_pos (by rw [hlen]; exact hj)]
  | x :: r, i + 1, j, y, y', v, hi, hy, hj => by
    have ih := flat_set hlen r i j y y' v (by simpa using hi) hy hj
    rw [List.set_cons_succ, List.flatMap_cons, List.flatMap_cons, ih, List.set_append, if_neg (by rw [hlen, Nat.add_mul]; omega), hlen]
    congr 2
    rw [Nat.add_mul]; omega

/-- A store into one cell of an element of a slice of the call's own. -/
theorem SL_setRow {a x : Operand} {t : Nat} [hO : OneT P t] {A : Option Addr} {c s e i j : Nat} {enc : α → List Value} [hE : Enc enc s] {l : List α} {y y' : α} {v : Value} {L' : List Ent}
    (ha : ev σ a = .pointer (some (elt A s i j))) (hx : ev σ x = v) (h1 : v.oneCell' = true) (hi : l[i]? = some y) (hy : enc y' = (enc y).set j v) (hj : j < s)
    (hp : Put L (rowT e s enc A c l) (rowT e s enc A c (l.set i y')) L')
    (hq : q.chg = true) (hkp : q.keeps L → q.keeps L') (hg : wantedσ ops σ ⟨none, .store t a x, ty, pos, aft, gd⟩ = true)
    (h : SL P n W q ops Q rest σ L') : SL P n W q ops Q (⟨none, .store t a x, ty, pos, aft, gd⟩ :: rest) σ L := by
  have hil : i < l.length := (List.getElem?_eq_some_iff.1 hi).1
  refine SL_coreS hq rfl hg rfl fun w hw => ?_
  have hown := rowT_holds (hw.ok _ hp.mem).holds
  rcases hown with ⟨_, h0⟩ | ⟨g, cur, hc0, hA, hgg, h6, h7, h8, h9⟩
  · subst h0; simp at hil
  · subst hA
    obtain ⟨inf, h2, h3⟩ := hO.size
    have hcells : v.cells = #[v] := by cases v <;> first | rfl | cases h1
    have hk : i * s + j < l.length * s := by
      have : (i + 1) * s ≤ l.length * s := Nat.mul_le_mul_right s hil
      rw [Nat.add_mul] at this; omega
    have hk2 : i * s + j < cur.size := by
      have : l.length * s ≤ c * s := Nat.mul_le_mul_right s h6
      omega
    have hst := run_storeCells_at P g (i * s + j) e [v] 0 cur w hgg (by simp; omega) (by simpa using h1)
    have hset : (cur.toList.take (i * s + j + 0) ++ [v] ++ cur.toList.drop (i * s + j + 0 + [v].length)).toArray = cur.setIfInBounds (i * s + j) v := by
      apply Array.toList_inj.1
      simp [List.set_eq_take_append_cons_drop, hk2]
    rw [hset] at hst
    have hlt : g < w.heap.size := (Array.getElem?_eq_some_iff.1 hgg).1
    refine ⟨w.setRow g (cur.setIfInBounds (i * s + j) v), L', ?_, ?_, hkp, h⟩
    · have hel : elt (some ⟨g, 0, none⟩) s i j = ⟨g, i * s + j, none⟩ := by simp [elt]
      rw [hel] at ha
      simp [execOp, ha, hx, Instr.storeAt, Instr.sureAddr, storeVar, sizeOf, typeInfo, h2, h3, hcells, hst]
    · refine hw.put hp rfl rfl rfl (by simp [World.setRow]) (fun k _ hk => setRow_other w g k _ (fun e => hk ?_)) ⟨fun k hk => ?_, ?_⟩ (fun k hk => .inl ?_)
      · subst e
        simp only [rowT]
        exact ⟨hc0, _, rfl, rfl⟩
      · simp only [rowT] at hk
        obtain ⟨_, a, ha, rfl⟩ := hk
        cases ha
        simpa [World.setRow] using hlt
      · simp only [rowT]
        refine .inr ⟨g, cur.setIfInBounds (i * s + j) v, hc0, rfl, setRow_heap w g cur _ e (0, 0) hgg, by rw [List.length_set]; exact h6, h7, by simpa using h8, ?_⟩
        rw [flat_set hE.len l i j y y' v hi hy hj, List.length_set, Array.toList_setIfInBounds, List.take_set, h9]
      · simp only [rowT] at hk ⊢
        exact hk

theorem zeroCells_flat (zero : List Value) (N : Nat) (_hpos : 0 < zero.length) : (Builtin.zeroCells zero.toArray N).toList = (List.replicate N zero).flatten := by
  apply List.ext_getElem?
  intro k
  have hfl : ∀ (m k : Nat), (List.replicate m zero).flatten[k]? = if k < m * zero.length then some (zero.toArray[k % zero.length]!) else none := by
    intro m
    induction m with
    | zero => intro k; simp
    | succ m ih =>
      intro k
      rw [List.replicate_succ, List.flatten_cons]
      by_cases hk : k < zero.length
      · rw [List.getElem?_append_left (by omega), if_pos (by rw [Nat.add_mul]; omega), List.getElem?_eq_getElem (by omega)]
        simp [Nat.mod_eq_of_lt hk, hk]
      · rw [List.getElem?_append_right (by omega), ih]
        have e1 : (k - zero.length < m * zero.length) ↔ (k < (m + 1) * zero.length) := by rw [Nat.add_mul]; omega
        have e2 : (k - zero.length) % zero.length = k % zero.length := by
          conv => rhs; rw [show k = (k - zero.length) + zero.length from by omega]
          simp
        simp only [e1, e2]
  rw [hfl]
  simp only [Builtin.zeroCells, Array.toList_map, Array.toList_range, List.getElem?_map, List.size_toArray]
  split <;> rename_i hk
  · simp [hk]
  · simp [hk]

theorem flat_replicate {enc : α → List Value} (z : α) (N : Nat) : (List.replicate N z).flatMap enc = (List.replicate N (enc z)).flatten := by
  induction N with
  | zero => rfl
  | succ n ih => rw [List.replicate_succ, List.replicate_succ, List.flatMap_cons, List.flatten_cons, ih]

/-- 'clear(s)' of a slice of the call's own. -/
theorem SL_clear {x : Operand} {t e s b : Nat} [hT : SliceT P t e s b] {zero : List Value} [hzt : ZeroT P e zero] {enc : α → List Value} [hE : Enc enc s] {A : Option Addr} {c : Nat} {l : List α} {z : α} {L' : List Ent}
    (hx : ev σ x = .slice A l.length c) (hz : enc z = zero) (hp : Put L (rowT e s enc A c l) (rowT e s enc A c (List.replicate l.length z)) L')
    (hq : q.chg = true) (hkp : q.keeps L → q.keeps L') (hg : wantedσ ops σ ⟨none, .call { callee := .builtin .clear, args := #[x], argTypes := #[t] }, ty, pos, aft, gd⟩ = true)
    (h : SL P n W q ops Q rest σ L') : SL P n W q ops Q (⟨none, .call { callee := .builtin .clear, args := #[x], argTypes := #[t] }, ty, pos, aft, gd⟩ :: rest) σ L := by
  have hd : dstOk n none = true := rfl
  refine SL_core hq (Nat.le_of_ble_eq_true rfl) hg hd fun w hw => ?_
  have hin := hw.ok _ hp.mem
  cases l with
  | nil =>
    refine ⟨.tuple #[], w, L', ?_, hw.put hp rfl rfl rfl (Nat.le_refl _) (fun _ _ _ => rfl) ⟨hin.lt, hin.holds⟩ (fun k hk => .inl hk), fun h2 => (by cases h2), .inr hkp, h⟩
    have hu := run_underlying hT.ul w
    have hc : (Builtin.clear_ #[t] ty #[.slice A 0 c]).run P w = .ok (.tuple #[]) w := by
      cases A <;> simp [Builtin.clear_, hu]
    simp only [execOp, resolve, List.map_toArray, List.map_cons, List.map_nil, hx, List.length_nil, Sem.run_bind, Sem.run_pure, Result.andThen_ok, invoke, builtin, hc]
  | cons y r =>
    generalize hl : y :: r = l at *
    have hpos : 0 < l.length := by rw [← hl]; simp
    rcases rowT_holds hin.holds with ⟨_, h0⟩ | ⟨g, cur, hc0, hA, hgg, h6, h7, h8, h9⟩
    · rw [h0] at hpos; simp at hpos
    · subst hA
      obtain ⟨i', v, g3, g4, g5⟩ := hzt.fact
      have hzv : (zeroValue e).run P w = .ok v w := by simp [zeroValue, typeInfo, g3, g4]
      have hzl : zero.length = s := by rw [← hz, hE.len]
      have hzc := zeroCells_flat zero l.length (by rw [hzl]; exact hT.pos)
      have hlen : ((List.replicate l.length zero).flatten).length = l.length * s := by rw [← hz, ← flat_replicate, flat_length hE.len, List.length_replicate]
      have hle : l.length * s ≤ cur.size := by rw [h8]; exact Nat.mul_le_mul_right s h6
      have hone : ∀ u ∈ (List.replicate l.length zero).flatten, u.oneCell' = true := fun u hu => by
        rw [← hz, ← flat_replicate] at hu
        obtain ⟨x, _, hx⟩ := List.mem_flatMap.1 hu
        exact hE.one x u hx
      have hst := run_storeCells_at P g 0 e ((List.replicate l.length zero).flatten) 0 cur w hgg (by rw [hlen]; simpa using hle) hone
      generalize hcur' : (cur.toList.take (0 + 0) ++ (List.replicate l.length zero).flatten ++ cur.toList.drop (0 + 0 + ((List.replicate l.length zero).flatten).length)).toArray = cur' at hst
      have hlt : g < w.heap.size := (Array.getElem?_eq_some_iff.1 hgg).1
      refine ⟨.tuple #[], w.setRow g cur', L', ?_, ?_, fun h2 => (by cases h2), .inr hkp, h⟩
      · have hu := run_underlying hT.ul w
        have hc : (Builtin.clear_ #[t] ty #[.slice (some ⟨g, 0, none⟩) l.length c]).run P w = .ok (.tuple #[]) (w.setRow g cur') := by
          obtain ⟨N, hN⟩ : ∃ N, l.length = N + 1 := ⟨l.length - 1, by omega⟩
          rw [hN] at hzc hst ⊢
          have hst' : (storeCells ⟨g, 0, none⟩ (List.replicate (N + 1) zero).flatten).run P w = .ok () (w.setRow g cur') := by simpa using hst
          simp [Builtin.clear_, hu, hzv, g5, hzc, hst']
        simp only [execOp, resolve, List.map_toArray, List.map_cons, List.map_nil, hx, Sem.run_bind, Sem.run_pure, Result.andThen_ok, invoke, builtin, hc]
      · refine hw.put hp rfl rfl rfl (by simp [World.setRow]) (fun k _ hk => setRow_other w g k _ (fun e => hk ?_)) ⟨fun k hk => ?_, ?_⟩ (fun k hk => .inl ?_)
        · subst e
          simp only [rowT]
          exact ⟨hc0, _, rfl, rfl⟩
        · simp only [rowT] at hk
          obtain ⟨_, a, ha, rfl⟩ := hk
          cases ha
          simpa [World.setRow] using hlt
        · simp only [rowT]
          refine .inr ⟨g, cur', hc0, rfl, setRow_heap w g cur _ e (0, 0) hgg, by rw [List.length_replicate]; exact h6, h7, ?_, ?_⟩
          · rw [← hcur']; simp [hlen]; omega
          · rw [← hcur', List.length_replicate, flat_replicate, hz]
            simp only [List.take_zero, List.nil_append, Nat.add_zero, Nat.zero_add]
            rw [List.take_append_of_le_length (by rw [hlen]; exact Nat.le_refl _), List.take_of_length_le (by rw [hlen]; exact Nat.le_refl _)]
        · simp only [rowT] at hk ⊢
          exact hk
theorem leave0W {fn : Func} {L' : List Ent} {R : Value → List Ent → Prop} (hr : fn.results = #[]) (hL : ∀ w, Mem W w L → Mem W w L') (h : R (.tuple #[]) L') : bodyQ P W fn R .normal σ L := by
  intro a w _ hw
  exact ⟨_, results_none hr _ _ _, L', hL w hw, h⟩

variable {x y : Operand} {t t2 : TypeId} {ol : List Oper}
theorem isMax (h : SL P n W q ops Q (⟨dst, .call { callee := .builtin .max, args := #[x, y], argTypes := #[t, t2] }, ty, pos, aft, gd⟩ :: rest) σ L) :
    SL P n W q ops Q (⟨dst, .call { callee := .builtin .max, args := #[x, y], argTypes := #[t, t2] }, ty, pos, aft, gd⟩ :: rest) σ L := h
theorem isMin (h : SL P n W q ops Q (⟨dst, .call { callee := .builtin .min, args := #[x, y], argTypes := #[t, t2] }, ty, pos, aft, gd⟩ :: rest) σ L) :
    SL P n W q ops Q (⟨dst, .call { callee := .builtin .min, args := #[x, y], argTypes := #[t, t2] }, ty, pos, aft, gd⟩ :: rest) σ L := h
theorem isConv (h : SL P n W q ops Q (⟨dst, .convert t t2 x, ty, pos, aft, gd⟩ :: rest) σ L) : SL P n W q ops Q (⟨dst, .convert t t2 x, ty, pos, aft, gd⟩ :: rest) σ L := h
theorem leave3W {fn : Func} {a b c : Nat} {L' : List Ent} {R : Value → List Ent → Prop} (hr : fn.results = #[.tmp a, .tmp b, .tmp c]) (hL : ∀ w, Mem W w L → Mem W w L') (h : R (.tuple #[σ a, σ b, σ c]) L') : bodyQ P W fn R .ret σ L := by
  intro a' w ha hw
  obtain ⟨v, h1, L1, h2, h3⟩ := leave3 (P := P) (W := W) (σ := σ) (R := fun v _ => v = .tuple #[σ a, σ b, σ c]) (L := L) hr rfl a' w ha hw
  subst h3
  exact ⟨_, h1, L', hL w hw, h⟩
end
end Go.Proofs.Ytfcljepagnipaaa
