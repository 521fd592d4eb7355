/-
  Proved here: further rules of the walk: a pointer asked for nil; a slice of the call's own that is cut, closed up in place, wiped behind its end, or has a whole element stored into it.
-/
import Derived.Test.YtfcljepagnipaaaMore
namespace Go.Proofs.Ytfcljepagnipaaa
open Go.RowKit

/-- Where a slice lies that begins at an element of another. -/
def cutA (A : Option Addr) (c lo s : Nat) : Option Addr := if c = lo then A else A.map (·.add (lo * s))
theorem cutA_some {g c lo s : Nat} (h : lo < c) : cutA (some ⟨g, 0, none⟩) c lo s = some ⟨g, lo * s, none⟩ := by
  unfold cutA
  rw [if_neg (by omega), Option.map_some, Addr.add_lit, Nat.zero_add]

section
variable {α : Type} {enc : α → List Value} {s : Nat}
theorem flat_take (h : ∀ x, (enc x).length = s) : ∀ (l : List α) (i : Nat), (l.take i).flatMap enc = (l.flatMap enc).take (i * s)
  | [], i => by simp
  | x :: r, 0 => by simp
  | x :: r, i + 1 => by
    rw [List.take_succ_cons, List.flatMap_cons, List.flatMap_cons, flat_take h r i, List.take_append, h, Nat.add_mul]
    rw [List.take_of_length_le (l := enc x) (by rw [h]; omega)]
    rw [show i * s + 1 * s - s = i * s from by omega]
theorem flat_drop (h : ∀ x, (enc x).length = s) : ∀ (l : List α) (i : Nat), (l.drop i).flatMap enc = (l.flatMap enc).drop (i * s)
  | [], i => by simp
  | x :: r, 0 => by simp
  | x :: r, i + 1 => by
    rw [List.drop_succ_cons, List.flatMap_cons, flat_drop h r i, List.drop_append, h, Nat.add_mul]
    rw [List.drop_eq_nil_of_le (as := enc x) (by rw [h]; omega), List.nil_append]
    rw [show i * s + 1 * s - s = i * s from by omega]
end

section
variable {P : Program} {n : Nat} {W : World} {q : Md} {Q : Exit → St → List Ent → Prop} {σ : St} {L : List Ent} {ops : Array Oper} {rest : List Oper}
  {dst : Option Nat} {ty : TypeId} {pos : String} {aft : Array Edge} {gd : Option (Nat × Bool)} {α : Type} {enc : α → List Value}

theorem SL_nilCheck {x : Operand} {a : Addr} (hx : ev σ x = .pointer (some a))
    (hg : wantedσ ops σ ⟨dst, .nilCheck x, ty, pos, aft, gd⟩ = true) (hd : dstOk n dst = true)
    (h : SL P n W q ops Q rest (updO σ dst (.pointer (some a))) L) : SL P n W q ops Q (⟨dst, .nilCheck x, ty, pos, aft, gd⟩ :: rest) σ L := by
  refine SL_valW _ (Nat.le_of_ble_eq_true rfl) hg hd (fun w => ?_) h
  simp [execOp, hx]

/-- What is left over. -/
theorem SL_rem {x y : Operand} {t t2 : TypeId} {k : IntKind} {a b : Int} (hx : ev σ x = .int k a) (hy : ev σ y = .int k b) (hb : b ≠ 0)
    (hg : wantedσ ops σ ⟨dst, .binOp .rem t x y t2, ty, pos, aft, gd⟩ = true) (hd : dstOk n dst = true)
    (h : SL P n W q ops Q rest (updO σ dst (.int k (a.tmod b))) L) : SL P n W q ops Q (⟨dst, .binOp .rem t x y t2, ty, pos, aft, gd⟩ :: rest) σ L := by
  refine SL_valW _ (Nat.le_of_ble_eq_true rfl) hg hd (fun w => ?_) h
  simp [execOp, hx, hy, go_sem, hb]

/-- 'x[:h]', wherever x lies. -/
theorem SL_sliceTo {x hi : Operand} {t : TypeId} {A : Option Addr} {m c h : Nat} {e s b : Nat} [hT : SliceT P t e s b]
    (hx : ev σ x = .slice A m c) (hi' : ev σ hi = .int .i64 (h : Int)) (hh : h ≤ c)
    (hg : wantedσ ops σ ⟨dst, .slice t x none (some hi) none, ty, pos, aft, gd⟩ = true) (hd : dstOk n dst = true)
    (H : SL P n W q ops Q rest (updO σ dst (.slice A h c)) L) :
    SL P n W q ops Q (⟨dst, .slice t x none (some hi) none, ty, pos, aft, gd⟩ :: rest) σ L := by
  refine SL_val _ rfl hg hd (fun w hw => ?_) H
  have hsz := run_size (P := P) (t := t) w
  simp only [execOp, hx, hi', Option.map_some, Option.map_none, Instr.sliceAt, Instr.slice, Sem.run_bind, run_underlying hT.ul, Result.andThen_ok, bounds_h hh, hsz, Sem.run_pure]
  have : (if c = 0 then A else A.map (·.add (0 * s))) = A := by
    split
    · rfl
    · cases A with
      | none => rfl
      | some a => simp [Addr.add]
  rw [this]
  rfl

/-- 'x[l:]', wherever x lies. -/
theorem SL_sliceFrom {x lo : Operand} {t : TypeId} {A : Option Addr} {m c l : Nat} {e s b : Nat} [hT : SliceT P t e s b]
    (hx : ev σ x = .slice A m c) (hlo : ev σ lo = .int .i64 (l : Int)) (hl : l ≤ m)
    (hg : wantedσ ops σ ⟨dst, .slice t x (some lo) none none, ty, pos, aft, gd⟩ = true) (hd : dstOk n dst = true)
    (H : SL P n W q ops Q rest (updO σ dst (.slice (cutA A c l s) (m - l) (c - l))) L) :
    SL P n W q ops Q (⟨dst, .slice t x (some lo) none none, ty, pos, aft, gd⟩ :: rest) σ L := by
  refine SL_val _ rfl hg hd (fun w hw => ?_) H
  have hsz := run_size (P := P) (t := t) w
  simp only [execOp, hx, hlo, Option.map_some, Option.map_none, Instr.sliceAt, Instr.slice, Sem.run_bind, run_underlying hT.ul, Result.andThen_ok, bounds_l hl, hsz, Sem.run_pure]
  rfl

/-- 'x[l:h]', wherever x lies. -/
theorem SL_sliceMid {x lo hi : Operand} {t : TypeId} {A : Option Addr} {m c l h : Nat} {e s b : Nat} [hT : SliceT P t e s b]
    (hx : ev σ x = .slice A m c) (hlo : ev σ lo = .int .i64 (l : Int)) (hhi : ev σ hi = .int .i64 (h : Int)) (hl : l ≤ h) (hh : h ≤ c)
    (hg : wantedσ ops σ ⟨dst, .slice t x (some lo) (some hi) none, ty, pos, aft, gd⟩ = true) (hd : dstOk n dst = true)
    (H : SL P n W q ops Q rest (updO σ dst (.slice (cutA A c l s) (h - l) (c - l))) L) :
    SL P n W q ops Q (⟨dst, .slice t x (some lo) (some hi) none, ty, pos, aft, gd⟩ :: rest) σ L := by
  refine SL_val _ rfl hg hd (fun w hw => ?_) H
  have hsz := run_size (P := P) (t := t) w
  simp only [execOp, hx, hlo, hhi, Option.map_some, Option.map_none, Instr.sliceAt, Instr.slice, Sem.run_bind, run_underlying hT.ul, Result.andThen_ok, bounds_lh hl hh, hsz, Sem.run_pure]
  rfl

/-- 'x[l:h:m]', whose value is not used again. -/
theorem SL_sliceAny {x : Operand} {lo hi mx : Option Operand} {t : TypeId} {A : Option Addr} {k c l h m : Nat} {e s b : Nat} [hT : SliceT P t e s b]
    (hx : ev σ x = .slice A k c) (hb : ∀ w, (Instr.sliceBounds true k c (lo.map (ev σ)) (hi.map (ev σ)) (mx.map (ev σ))).run P w = .ok (l, h, m) w)
    (hg : wantedσ ops σ ⟨dst, .slice t x lo hi mx, ty, pos, aft, gd⟩ = true) (hd : dstOk n dst = true)
    (H : ∀ v, SL P n W q ops Q rest (updO σ dst v) L) :
    SL P n W q ops Q (⟨dst, .slice t x lo hi mx, ty, pos, aft, gd⟩ :: rest) σ L := by
  refine SL_val (.slice (if m = l then A else A.map (·.add (l * s))) (h - l) (m - l)) rfl hg hd (fun w hw => ?_) (H _)
  have hsz := run_size (P := P) (t := t) w
  simp only [execOp, hx, Instr.sliceAt, Instr.slice, Sem.run_bind, run_underlying hT.ul, Result.andThen_ok, hb, hsz, Sem.run_pure]

theorem Own.take {s : Nat} [_hE : Enc enc s] {e : Nat} {A : Option Addr} {c : Nat} {l : List α} {w : World} (h : Own e s enc A c l w) (i : Nat) : Own e s enc A c (l.take i) w := by
  rcases h with ⟨h0, rfl⟩ | ⟨g, cur, hc0, rfl, hg, h6, h7, h8, h9⟩
  · exact .inl ⟨h0, by simp⟩
  · refine .inr ⟨g, cur, hc0, rfl, hg, by rw [List.length_take]; omega, h7, h8, ?_⟩
    rw [flat_take _hE.len, ← h9, List.take_take, List.length_take]
    congr 1
    rcases Nat.le_total i l.length with h | h
    · rw [Nat.min_eq_left h, Nat.min_eq_left (Nat.mul_le_mul_right s h)]
    · rw [Nat.min_eq_right h, Nat.min_eq_right (Nat.mul_le_mul_right s h)]

/-- The back of a row given up. -/
theorem Mem.row_take {s : Nat} [_hE : Enc enc s] {e : Nat} {A : Option Addr} {c : Nat} {l : List α} {w : World} {L' : List Ent} (hw : Mem W w L) (i : Nat) (hp : Put L (rowT e s enc A c l) (rowT e s enc A c (l.take i)) L') : Mem W w L' := by
  have hin := hw.ok _ hp.mem
  refine hw.put hp rfl rfl rfl (Nat.le_refl _) (fun _ _ _ => rfl) ⟨fun k hk => hin.lt k ?_, ?_⟩ (fun k hk => .inl ?_)
  · simp only [rowT] at hk ⊢; exact hk
  · simp only [rowT]; exact (rowT_holds hin.holds).take i
  · simp only [rowT] at hk ⊢; exact hk

/-- 'x = append(x[:i], x[j:]...)' on a row of the call's own: in place. -/
theorem SL_appendCut {t : Nat} {e s b : Nat} [hT : SliceT P t e s b] [hE : Enc enc s] {x y : Operand} {A : Option Addr} {c i j : Nat} {l : List α} {L' : List Ent}
    (hx : ev σ x = .slice A i c) (hy : ev σ y = .slice (cutA A c j s) (l.length - j) (c - j)) (hij : i ≤ j) (hj : j ≤ l.length) (hpos : 0 < l.length)
    (hp : Put L (rowT e s enc A c l) (rowT e s enc A c (l.take i ++ l.drop j)) L')
    (hq : q.chg = true) (hkp : q.keeps L → q.keeps L') (hg : wantedσ ops σ ⟨dst, .call { callee := .builtin .append, args := #[x, y], argTypes := #[t, t] }, ty, pos, aft, gd⟩ = true) (hd : dstOk n dst = true)
    (h : SL P n W q ops Q rest (updO σ dst (.slice A (i + (l.length - j)) c)) L') :
    SL P n W q ops Q (⟨dst, .call { callee := .builtin .append, args := #[x, y], argTypes := #[t, t] }, ty, pos, aft, gd⟩ :: rest) σ L := by
  refine SL_core hq (Nat.le_of_ble_eq_true rfl) hg hd fun w hw => ?_
  have hin := hw.ok _ hp.mem
  rcases rowT_holds hin.holds with ⟨_, h0⟩ | ⟨g, cur, hc0, rfl, hgg, h6, h7, h8, h9⟩
  · subst h0; simp at hpos
  obtain ⟨inf, z, h1, h2, h3, h4, h5⟩ := hT.info
  have hfl := flat_length hE.len l
  have hdl := flat_length hE.len (l.drop j)
  have htl := flat_length hE.len (l.take i)
  rw [List.length_drop] at hdl
  rw [List.length_take, Nat.min_eq_left (by omega)] at htl
  have hjs : j * s ≤ l.length * s := Nat.mul_le_mul_right s hj
  have his : i * s ≤ j * s := Nat.mul_le_mul_right s hij
  have hcs : l.length * s ≤ c * s := Nat.mul_le_mul_right s h6
  have hsub : (l.length - j) * s = l.length * s - j * s := Nat.sub_mul ..
  obtain ⟨a, ha, hcell⟩ : ∃ a, cutA (some ⟨g, 0, none⟩) c j s = some a ∧ ∀ k u, ((l.drop j).flatMap enc)[k]? = some u → w.cell? (a.add k) = some u := by
    by_cases hcj : c = j
    · refine ⟨⟨g, 0, none⟩, by unfold cutA; rw [if_pos hcj], fun k u hu => ?_⟩
      rw [List.drop_eq_nil_of_le (by omega)] at hu
      simp at hu
    · refine ⟨⟨g, j * s, none⟩, cutA_some (by omega), fun k u hu => ?_⟩
      rw [flat_drop hE.len, List.getElem?_drop, ← h9, List.getElem?_take] at hu
      split at hu
      · rw [Addr.add_lit, cell_of_row w g _ cur e (0, 0) hgg, ← Array.getElem?_toList]; exact hu
      · cases hu
  have hone : ∀ u ∈ (l.drop j).flatMap enc, u.oneCell' = true := fun u hu => by obtain ⟨x, _, hx⟩ := List.mem_flatMap.1 hu; exact hE.one x u hx
  have hr := run_append_room (P := P) w t ty e inf hT.ul h1 g i c cur hgg a (l.length - j) (c - j) ((l.drop j).flatMap enc) (by rw [h3]; exact hdl) hcell hone (by omega) (by rw [h3]; omega)
  rw [h3] at hr
  have hlt : g < w.heap.size := (Array.getElem?_eq_some_iff.1 hgg).1
  refine ⟨_, w.setRow g (cur.toList.take (i * s) ++ (l.drop j).flatMap enc ++ cur.toList.drop (i * s + ((l.drop j).flatMap enc).length)).toArray, L', ?_, ?_, fun h2 => (by cases h2), .inr hkp, h⟩
  · simp only [execOp, resolve, List.map_toArray, List.map_cons, List.map_nil, hx, hy, ha, Sem.run_bind, Sem.run_pure, Result.andThen_ok, invoke, builtin, hr]
  · refine hw.put hp rfl rfl rfl (by simp [World.setRow]) (fun k _ hk => setRow_other w g k _ (fun e => hk ?_)) ⟨fun k hk => ?_, ?_⟩ (fun k hk => .inl ?_)
    · subst e
      simp only [rowT]
      exact ⟨hc0, _, rfl, rfl⟩
    · simp only [rowT] at hk
      obtain ⟨_, a, ha, rfl⟩ := hk
      cases ha
      simpa [World.setRow] using hlt
    · simp only [rowT]
      have hcl : cur.toList.length = c * s := by simpa using h8
      refine .inr ⟨g, _, hc0, rfl, setRow_heap w g cur _ e (0, 0) hgg, by simp only [List.length_append, List.length_take, List.length_drop]; omega, h7, ?_, ?_⟩
      · simp only [List.size_toArray, List.length_append, List.length_take, List.length_drop, hdl, hcl]; omega
      · have hln : (l.take i ++ l.drop j).length * s = i * s + (l.length * s - j * s) := by
          rw [List.length_append, List.length_take, List.length_drop, Nat.min_eq_left (by omega), Nat.add_mul, hsub]
        rw [hln, List.flatMap_append]
        simp only
        rw [List.take_append_of_le_length (by simp only [List.length_append, List.length_take, hdl, hcl]; omega), List.take_of_length_le (by simp only [List.length_append, List.length_take, hdl, hcl]; omega)]
        congr 1
        rw [flat_take hE.len, ← h9, List.take_take, Nat.min_eq_left (by omega)]
    · simp only [rowT] at hk ⊢
      exact hk

/-- 'clear' of what lies behind the end of a row of the call's own. -/
theorem SL_clearCut {x : Operand} {t e s b : Nat} [hT : SliceT P t e s b] {zero : List Value} [hzt : ZeroT P e zero] [hE : Enc enc s] {A : Option Addr} {c lo k d : Nat} {l : List α}
    (hx : ev σ x = .slice (cutA A c lo s) k d) (z : α) (hz : enc z = zero) (hm : rowT e s enc A c l ∈ L) (hlo : l.length ≤ lo) (hk : lo + k ≤ c)
    (hq : q.chg = true) (hg : wantedσ ops σ ⟨none, .call { callee := .builtin .clear, args := #[x], argTypes := #[t] }, ty, pos, aft, gd⟩ = true)
    (h : SL P n W q ops Q rest σ L) : SL P n W q ops Q (⟨none, .call { callee := .builtin .clear, args := #[x], argTypes := #[t] }, ty, pos, aft, gd⟩ :: rest) σ L := by
  have hd : dstOk n none = true := rfl
  refine SL_core hq (Nat.le_of_ble_eq_true rfl) hg hd fun w hw => ?_
  have hin := hw.ok _ hm
  have hu := run_underlying hT.ul w
  cases k with
  | zero =>
    refine ⟨.tuple #[], w, L, ?_, hw, fun h2 => (by cases h2), .inr id, h⟩
    have hc : (Builtin.clear_ #[t] ty #[.slice (cutA A c lo s) 0 d]).run P w = .ok (.tuple #[]) w := by
      cases cutA A c lo s <;> simp [Builtin.clear_, hu]
    simp only [execOp, resolve, List.map_toArray, List.map_cons, List.map_nil, hx, Sem.run_bind, Sem.run_pure, Result.andThen_ok, invoke, builtin, hc]
  | succ N =>
    rcases rowT_holds hin.holds with ⟨hc0, _⟩ | ⟨g, cur, hc0, hA, hgg, h6, h7, h8, h9⟩
    · omega
    · subst hA
      rw [cutA_some (by omega)] at hx
      obtain ⟨i', v, g3, g4, g5⟩ := hzt.fact
      have hzv : (zeroValue e).run P w = .ok v w := by simp [zeroValue, typeInfo, g3, g4]
      have hzl : zero.length = s := by rw [← hz, hE.len]
      have hzc := zeroCells_flat zero (N + 1) (by rw [hzl]; exact hT.pos)
      have hlen : ((List.replicate (N + 1) zero).flatten).length = (N + 1) * s := by rw [← hz, ← flat_replicate, flat_length hE.len, List.length_replicate]
      have hle : lo * s + (N + 1) * s ≤ cur.size := by rw [h8, ← Nat.add_mul]; exact Nat.mul_le_mul_right s hk
      have hls : l.length * s ≤ lo * s := Nat.mul_le_mul_right s hlo
      have hone : ∀ u ∈ (List.replicate (N + 1) zero).flatten, u.oneCell' = true := fun u hu => by
        rw [← hz, ← flat_replicate] at hu
        obtain ⟨x, _, hx⟩ := List.mem_flatMap.1 hu
        exact hE.one x u hx
      have hst := run_storeCells_at P g (lo * s) e ((List.replicate (N + 1) zero).flatten) 0 cur w hgg (by rw [hlen]; simpa using hle) hone
      generalize hcur' : (cur.toList.take (lo * s + 0) ++ (List.replicate (N + 1) zero).flatten ++ cur.toList.drop (lo * s + 0 + ((List.replicate (N + 1) zero).flatten).length)).toArray = cur' at hst
      have hlt : g < w.heap.size := (Array.getElem?_eq_some_iff.1 hgg).1
      obtain ⟨pre, post, hL⟩ := List.append_of_mem hm
      have hput : Put L (rowT e s enc (some ⟨g, 0, none⟩) c l) (rowT e s enc (some ⟨g, 0, none⟩) c l) L := ⟨pre, post, hL, hL⟩
      refine ⟨.tuple #[], w.setRow g cur', L, ?_, ?_, fun h2 => (by cases h2), .inr id, h⟩
      · have hc : (Builtin.clear_ #[t] ty #[.slice (some ⟨g, lo * s, none⟩) (N + 1) d]).run P w = .ok (.tuple #[]) (w.setRow g cur') := by
          have hst' : (storeCells ⟨g, lo * s, none⟩ (List.replicate (N + 1) zero).flatten).run P w = .ok () (w.setRow g cur') := by simpa using hst
          simp [Builtin.clear_, hu, hzv, g5, hzc, hst']
        simp only [execOp, resolve, List.map_toArray, List.map_cons, List.map_nil, hx, Sem.run_bind, Sem.run_pure, Result.andThen_ok, invoke, builtin, hc]
      · refine hw.put hput rfl rfl rfl (by simp [World.setRow]) (fun k _ hk => setRow_other w g k _ (fun e => hk ?_)) ⟨fun k hk => ?_, ?_⟩ (fun k hk => .inl hk)
        · subst e
          simp only [rowT]
          exact ⟨hc0, _, rfl, rfl⟩
        · simp only [rowT] at hk
          obtain ⟨_, a, ha, rfl⟩ := hk
          cases ha
          simpa [World.setRow] using hlt
        · simp only [rowT]
          have hcl : cur.toList.length = cur.size := by simp
          refine .inr ⟨g, cur', hc0, rfl, setRow_heap w g cur _ e (0, 0) hgg, h6, h7, ?_, ?_⟩
          · rw [← hcur', ← h8]
            simp only [Nat.add_zero, hlen, List.size_toArray, List.length_append, List.length_take, List.length_drop, hcl]
            omega
          · rw [← hcur']
            simp only [Nat.add_zero]
            rw [List.append_assoc, List.take_append_of_le_length (by rw [List.length_take, hcl]; omega), List.take_take, Nat.min_eq_left hls]
            exact h9

theorem flat_setA {s : Nat} (hlen : ∀ x, (enc x).length = s) : ∀ (l : List α) (i : Nat) (y' : α), i < l.length → (l.set i y').flatMap enc = (l.flatMap enc).take (i * s) ++ enc y' ++ (l.flatMap enc).drop (i * s + s)
  | [], i, y', h => by simp at h
  | x :: r, 0, y', _ => by
    rw [List.set_cons_zero, List.flatMap_cons, List.flatMap_cons, Nat.zero_mul, List.take_zero, List.nil_append, Nat.zero_add]
    congr 1
    rw [List.drop_append, hlen, List.drop_eq_nil_of_le (by rw [hlen]; omega), Nat.sub_self, List.drop_zero, List.nil_append]
  | x :: r, i + 1, y', h => by
    have ih := flat_setA hlen r i y' (by simpa using h)
    rw [List.set_cons_succ, List.flatMap_cons, List.flatMap_cons, ih, Nat.add_mul, Nat.one_mul]
    rw [List.take_append, hlen, List.take_of_length_le (l := enc x) (by rw [hlen]; omega), List.drop_append, hlen, List.drop_eq_nil_of_le (as := enc x) (by rw [hlen]; omega), List.nil_append]
    rw [show i * s + s - s = i * s from by omega, show i * s + s + s - s = i * s + s from by omega]
    simp only [List.append_assoc]

/-- A store of a whole element into a slice of the call's own. -/
theorem SL_setRowA {a x : Operand} {t : Nat} {A : Option Addr} {c s e i : Nat} [hO : AggT P t s] {enc : α → List Value} [hE : Enc enc s] {l : List α} {y' : α} {L' : List Ent}
    (ha : ev σ a = .pointer (some (elt A s i 0))) (hx : ev σ x = .agg (enc y').toArray) (hi : i < l.length)
    (hp : Put L (rowT e s enc A c l) (rowT e s enc A c (l.set i y')) L')
    (hq : q.chg = true) (hkp : q.keeps L → q.keeps L') (hg : wantedσ ops σ ⟨none, .store t a x, ty, pos, aft, gd⟩ = true)
    (h : SL P n W q ops Q rest σ L') : SL P n W q ops Q (⟨none, .store t a x, ty, pos, aft, gd⟩ :: rest) σ L := by
  refine SL_coreS hq rfl hg rfl fun w hw => ?_
  have hown := rowT_holds (hw.ok _ hp.mem).holds
  rcases hown with ⟨_, h0⟩ | ⟨g, cur, hc0, hA, hgg, h6, h7, h8, h9⟩
  · subst h0; simp at hi
  · subst hA
    obtain ⟨inf, h2, h3⟩ := hO.info
    have hk : i * s + s ≤ l.length * s := by
      have : (i + 1) * s ≤ l.length * s := Nat.mul_le_mul_right s hi
      rw [Nat.add_mul] at this; omega
    have hk2 : l.length * s ≤ c * s := Nat.mul_le_mul_right s h6
    have hel := hE.len y'
    have hst := run_storeCells_at P g (i * s) e (enc y') 0 cur w hgg (by rw [hel]; simp; omega) (hE.one y')
    simp only [Nat.add_zero, hel] at hst
    have hlt : g < w.heap.size := (Array.getElem?_eq_some_iff.1 hgg).1
    refine ⟨w.setRow g (cur.toList.take (i * s) ++ enc y' ++ cur.toList.drop (i * s + s)).toArray, L', ?_, ?_, hkp, h⟩
    · have he : elt (some ⟨g, 0, none⟩) s i 0 = ⟨g, i * s, none⟩ := by simp [elt]
      rw [he] at ha
      have hsz : (sizeOf t).run P w = .ok s w := by simp [sizeOf, typeInfo, h2, h3]
      simp [execOp, ha, hx, Instr.storeAt, Instr.sureAddr, storeVar, hsz, Value.cells, hel, hst]
    · have hcl : cur.toList.length = c * s := by simpa using h8
      refine hw.put hp rfl rfl rfl (by simp [World.setRow]) (fun k _ hk => setRow_other w g k _ (fun e => hk ?_)) ⟨fun k hk => ?_, ?_⟩ (fun k hk => .inl ?_)
      · subst e
        simp only [rowT]
        exact ⟨hc0, _, rfl, rfl⟩
      · simp only [rowT] at hk
        obtain ⟨_, a, ha, rfl⟩ := hk
        cases ha
        simpa [World.setRow] using hlt
      · simp only [rowT]
        refine .inr ⟨g, _, hc0, rfl, setRow_heap w g cur _ e (0, 0) hgg, by rw [List.length_set]; exact h6, h7, ?_, ?_⟩
        · simp only [List.size_toArray, List.length_append, List.length_take, List.length_drop, hel, hcl]; omega
        · rw [List.length_set, flat_setA hE.len l i y' hi, ← h9]
          simp only [List.append_assoc]
          rw [List.take_append, List.length_take, hcl, Nat.min_eq_left (by omega), List.take_append, hel]
          rw [List.take_of_length_le (l := enc y') (by rw [hel]; omega), List.take_of_length_le (l := cur.toList.take (i * s)) (by rw [List.length_take, hcl]; omega)]
          rw [List.take_take, Nat.min_eq_left (by omega), List.drop_take]
          congr 3
          omega
      · simp only [rowT] at hk ⊢
        exact hk
/-- A loop whose pieces may be put together otherwise at each round's end. -/
theorem SC_loopW {c : Code} (I : Nat → St → List Ent → Prop) (m : Nat) (Lc : List Ent) (hs : Lc.Sublist L) (h0 : I m σ Lc)
    (round : ∀ m σ L, I m σ L → SC P n W c (seqQ (fun σ' L' => ∃ m' Lc, m' < m ∧ (∀ w, Mem W w L' → Mem W w Lc) ∧ I m' σ' Lc) Q) σ L) : SC P n W (.loop c) Q σ L := by
  have hround : ∀ m σ L, I m σ L → ∀ a w, Rep n σ a → Mem W w L → c.wp P (lift n W (seqQ (fun σ' L' => ∃ m' Lc, m' < m ∧ (∀ w, Mem W w L' → Mem W w Lc) ∧ I m' σ' Lc) Q)) a w := by
    intro m σ L h
    have := round m σ L h
    unfold SC at this
    exact this
  unfold SC
  intro a w ha hw
  have hmin : ∀ p : Nat → Prop, (∃ m, p m) → ∃ m, p m ∧ ∀ k, p k → m ≤ k := by
    intro p ⟨m, hm⟩
    induction m using Nat.strongRecOn with
    | _ m ih =>
      by_cases hx : ∃ k, k < m ∧ p k
      · obtain ⟨k, hk, hp⟩ := hx; exact ih k hk hp
      · exact ⟨m, hm, fun k hp => Nat.le_of_not_lt fun hlt => hx ⟨k, hlt, hp⟩⟩
  let J : Act → World → Nat → Prop := fun a w m => ∃ σ L, Rep n σ a ∧ Mem W w L ∧ I m σ L
  let μ : Act → World → Nat := fun a w => open Classical in if h : ∃ m, J a w m then Classical.choose (hmin _ h) else 0
  have hμ : ∀ a w m, J a w m → J a w (μ a w) ∧ μ a w ≤ m := by
    intro a w m hm
    have hex : ∃ m, J a w m := ⟨m, hm⟩
    have e : μ a w = Classical.choose (hmin _ hex) := dif_pos hex
    rw [e]
    exact ⟨(Classical.choose_spec (hmin _ hex)).1, (Classical.choose_spec (hmin _ hex)).2 m hm⟩
  refine wp_loop (fun a w => ∃ m, J a w m) μ ⟨m, σ, Lc, ha, hw.sublist hs, h0⟩ ?_
  rintro a w ⟨m, hm⟩
  obtain ⟨σ, L, ha, hw, hI⟩ := (hμ a w m hm).1
  refine wp_mono (hround _ σ L hI a w ha hw) ?_
  rintro e a' w' ⟨σ', L', h1, h2, h3⟩
  cases e
  case normal =>
    obtain ⟨m', Lc, hlt, hsub, hI'⟩ := h3
    have hj : J a' w' m' := ⟨σ', Lc, h1, hsub w' h2, hI'⟩
    exact ⟨⟨m', hj⟩, Nat.lt_of_le_of_lt (hμ a' w' m' hj).2 hlt⟩
  all_goals exact ⟨σ', L', h1, h2, h3⟩

/-- Two pieces as one. -/
def both (a b : Ent) : Ent := ⟨fun k => a.S k ∨ b.S k, fun w => (a.p w ∧ b.p w) ∧ ∀ k, a.S k → ¬ b.S k, fun w w' h hp => ⟨⟨a.loc w w' (fun k hk => h k (.inl hk)) hp.1.1, b.loc w w' (fun k hk => h k (.inr hk)) hp.1.2⟩, hp.2⟩⟩
theorem Mem.both_iff {a b : Ent} {w : World} : Mem W w (both a b :: L) ↔ Mem W w (a :: b :: L) := by
  constructor
  · intro h
    have hs := List.pairwise_cons.1 h.sep
    have h0 := h.ok _ (List.mem_cons_self ..)
    refine ⟨h.os, h.tape, h.output, h.size, fun x hx => ?_, List.pairwise_cons.2 ⟨fun x hx k hk => ?_, List.pairwise_cons.2 ⟨fun x hx k hk => hs.1 x hx k (.inr hk), hs.2⟩⟩⟩
    · rcases List.mem_cons.1 hx with rfl | hx
      · exact ⟨fun k hk => h0.lt k (.inl hk), h0.holds.1.1⟩
      · rcases List.mem_cons.1 hx with rfl | hx
        · exact ⟨fun k hk => h0.lt k (.inr hk), h0.holds.1.2⟩
        · exact h.ok x (List.mem_cons_of_mem _ hx)
    · rcases List.mem_cons.1 hx with rfl | hx
      · exact h0.holds.2 k hk
      · exact hs.1 x hx k (.inl hk)
  · intro h
    have hs := List.pairwise_cons.1 h.sep
    have hs2 := List.pairwise_cons.1 hs.2
    have h0 := h.ok a (List.mem_cons_self ..)
    have h1 := h.ok b (List.mem_cons_of_mem _ (List.mem_cons_self ..))
    refine ⟨h.os, h.tape, h.output, h.size, fun x hx => ?_, List.pairwise_cons.2 ⟨fun x hx k hk => ?_, hs2.2⟩⟩
    · rcases List.mem_cons.1 hx with rfl | hx
      · exact ⟨fun k hk => hk.elim (h0.lt k) (h1.lt k), ⟨h0.holds, h1.holds⟩, hs.1 b (List.mem_cons_self ..)⟩
      · exact h.ok x (List.mem_cons_of_mem _ (List.mem_cons_of_mem _ hx))
    · rcases hk with hk | hk
      · exact hs.1 x (List.mem_cons_of_mem _ hx) k hk
      · exact hs2.1 x hx k hk
theorem Knows.both {a b : Ent} {p : World → Prop} (h : Knows W (a :: b :: L) p) : Knows W (both a b :: L) p := fun w hw => h w (Mem.both_iff.1 hw)

/-- Some of the first pieces, in another order. -/
theorem Mem.pick {w : World} (n : Nat) (idx : List Nat) (hn : idx.Pairwise (fun a b => a ≠ b)) (h : Mem W w L) : Mem W w (idx.filterMap (fun i => (L.take n)[i]?) ++ L.drop n) := by
  have hsep := List.pairwise_iff_getElem.1 h.sep
  have key : ∀ (i j : Nat) (a b : Ent), i ≠ j → L[i]? = some a → L[j]? = some b → ∀ k, a.S k → ¬ b.S k := by
    intro i j a b hij ha hb k hak hbk
    obtain ⟨hi, rfl⟩ := List.getElem?_eq_some_iff.1 ha
    obtain ⟨hj, rfl⟩ := List.getElem?_eq_some_iff.1 hb
    rcases Nat.lt_or_gt_of_ne hij with h | h
    · exact hsep i j hi hj h k hak hbk
    · exact hsep j i hj hi h k hbk hak
  have take_get : ∀ (i : Nat) (a : Ent), (L.take n)[i]? = some a → L[i]? = some a ∧ i < n := by
    intro i a ha
    rw [List.getElem?_take] at ha
    split at ha
    · exact ⟨ha, by assumption⟩
    · cases ha
  refine ⟨h.os, h.tape, h.output, h.size, fun x hx => ?_, List.pairwise_append.2 ⟨?_, h.sep.sublist (List.drop_sublist _ _), fun a ha b hb => ?_⟩⟩
  · rcases List.mem_append.1 hx with hx | hx
    · obtain ⟨i, _, hi⟩ := List.mem_filterMap.1 hx
      exact h.ok x (List.mem_of_getElem? (take_get i x hi).1)
    · exact h.ok x (List.mem_of_mem_drop hx)
  · rw [List.pairwise_filterMap]
    exact hn.imp fun {i j} hij a ha b hb => key i j a b hij (take_get i a ha).1 (take_get j b hb).1
  · obtain ⟨i, _, hi⟩ := List.mem_filterMap.1 ha
    obtain ⟨j, hj, rfl⟩ := List.getElem_of_mem hb
    have hi := take_get i a hi
    rw [List.getElem_drop]
    exact key i (n + j) a _ (by omega) hi.1 (List.getElem?_eq_getElem _)
def all4 (a b c d : Ent) : Ent := both (both (both a b) c) d
theorem Mem.all4_iff {a b c d : Ent} {w : World} : Mem W w (all4 a b c d :: L) ↔ Mem W w (a :: b :: c :: d :: L) := by

  unfold all4
  constructor
  · intro h
    exact Mem.both_iff.1 (Mem.both_iff.1 (Mem.both_iff.1 h))
  · intro h
    exact Mem.both_iff.2 (Mem.both_iff.2 (Mem.both_iff.2 h))

theorem Knows.all4 {a b c d : Ent} {p : World → Prop} (h : Knows W (a :: b :: c :: d :: L) p) : Knows W (all4 a b c d :: L) p := fun w hw => h w (Mem.all4_iff.1 hw)
theorem Knows.all4' {a b c d : Ent} {p : World → Prop} (h : Knows W (d :: c :: L) p) : Knows W (Go.Proofs.Ytfcljepagnipaaa.all4 a b c d :: L) p :=
  fun w hw => h w (((Mem.all4_iff.1 hw).sublist ((List.Sublist.refl _).cons _ |>.cons _)).perm (List.Perm.swap _ _ _))

theorem leave2W {fn : Func} {a b : Nat} {L' : List Ent} {R : Value → List Ent → Prop} (hr : fn.results = #[.tmp a, .tmp b]) (hL : ∀ w, Mem W w L → Mem W w L') (h : R (.tuple #[σ a, σ b]) L') : bodyQ P W fn R .ret σ L := by
  intro a' w ha hw
  obtain ⟨v, h1, L1, h2, h3⟩ := leave2 (P := P) (W := W) (σ := σ) (R := fun v _ => v = .tuple #[σ a, σ b]) (L := L) hr rfl a' w ha hw
  subst h3
  exact ⟨_, h1, L', hL w hw, h⟩
end
end Go.Proofs.Ytfcljepagnipaaa
