/-
  Proved here: further rules of the walk: shifts, a last bit, halves, products without a wrap, an array's element by value, a scope that nobody jumps back into.
-/
import Derived.Test.YtfcljepagnipaaaCut
import Derived.Scope
namespace Go.Proofs.Ytfcljepagnipaaa
open Go.RowKit

section
variable {P : Program} {n : Nat} {W : World} {q : Md} {Q : Exit → St → List Ent → Prop} {σ : St} {L : List Ent} {ops : Array Oper} {rest : List Oper}
  {dst : Option Nat} {ty : TypeId} {pos : String} {aft : Array Edge} {gd : Option (Nat × Bool)}

theorem SL_shr {x y : Operand} {t t2 : TypeId} {a s : Nat} (hx : ev σ x = .int .i64 (a : Int)) (hy : ev σ y = .int .i64 (s : Int)) (hs : s ≤ 64)
    (hg : wantedσ ops σ ⟨dst, .binOp .shr t x y t2, ty, pos, aft, gd⟩ = true) (hd : dstOk n dst = true)
    (h : SL P n W q ops Q rest (updO σ dst (.int .i64 ((a / 2 ^ s : Nat) : Int))) L) : SL P n W q ops Q (⟨dst, .binOp .shr t x y t2, ty, pos, aft, gd⟩ :: rest) σ L := by
  refine SL_valW _ (Nat.le_of_ble_eq_true rfl) hg hd (fun w => ?_) h
  have h1 := shift_shr_i64 (x := (a : Int)) (y := (s : Int)) (yk := .i64) (by omega) (by omega)
  have h2 : (eqGuard .shr t x y (.int .i64 (a : Int)) (.int .i64 (s : Int))) = pure () := rfl
  simp only [execOp, hx, hy, h2, binOp_shr, h1, Sem.run_bind, Sem.run_pure, Result.andThen_ok, Int.toNat_natCast]
  congr 3

theorem SL_shl {x y : Operand} {t t2 : TypeId} {a s : Nat} (hx : ev σ x = .int .i64 (a : Int)) (hy : ev σ y = .int .i64 (s : Int)) (hs : s ≤ 64) (hb : a * 2 ^ s ≤ 9223372036854775807)
    (hg : wantedσ ops σ ⟨dst, .binOp .shl t x y t2, ty, pos, aft, gd⟩ = true) (hd : dstOk n dst = true)
    (h : SL P n W q ops Q rest (updO σ dst (.int .i64 ((a * 2 ^ s : Nat) : Int))) L) : SL P n W q ops Q (⟨dst, .binOp .shl t x y t2, ty, pos, aft, gd⟩ :: rest) σ L := by
  refine SL_valW _ (Nat.le_of_ble_eq_true rfl) hg hd (fun w => ?_) h
  have h1 := shift_shl_i64 (x := (a : Int)) (y := (s : Int)) (yk := .i64) (by omega) (by omega)
  have h2 : (eqGuard .shl t x y (.int .i64 (a : Int)) (.int .i64 (s : Int))) = pure () := rfl
  have h3 : (a : Int) * 2 ^ ((s : Int).toNat) = ((a * 2 ^ s : Nat) : Int) := by rw [Int.toNat_natCast, Int.natCast_mul, Int.natCast_pow]; rfl
  simp only [execOp, hx, hy, h2, binOp_shl, h1, Sem.run_bind, Sem.run_pure, Result.andThen_ok]
  rw [h3, IntWalk.i64_in _ (by omega)]

/-- The last bit of a number. -/
theorem SL_and1 {x y : Operand} {t t2 : TypeId} {a : Nat} (hx : ev σ x = .int .i64 (a : Int)) (hy : ev σ y = .int .i64 1)
    (hg : wantedσ ops σ ⟨dst, .binOp .and t x y t2, ty, pos, aft, gd⟩ = true) (hd : dstOk n dst = true)
    (h : SL P n W q ops Q rest (updO σ dst (.int .i64 ((a % 2 : Nat) : Int))) L) : SL P n W q ops Q (⟨dst, .binOp .and t x y t2, ty, pos, aft, gd⟩ :: rest) σ L := by
  refine SL_valW _ (Nat.le_of_ble_eq_true rfl) hg hd (fun w => ?_) h
  have h2 : (eqGuard .and t x y (.int .i64 (a : Int)) (.int .i64 1)) = pure () := rfl
  have hb : (BitVec.ofInt 64 (a : Int) &&& BitVec.ofInt 64 1).toNat = a % 2 := by
    rw [BitVec.toNat_and, BitVec.toNat_ofInt, BitVec.toNat_ofInt]
    have h1 : ((1 : Int) % ((2 ^ 64 : Nat) : Int)).toNat = 1 := by decide
    have h3 : ((a : Int) % ((2 ^ 64 : Nat) : Int)).toNat = a % 2 ^ 64 := by rw [← Int.natCast_emod, Int.toNat_natCast]
    rw [h1, h3, Nat.and_one_is_mod]
    omega
  have h1 : (binOp .and t (.int .i64 (a : Int)) (.int .i64 1) : Sem Value) = pure (.int .i64 (IntKind.i64.wrap ((a % 2 : Nat) : Int))) := by
    have : (Op.intBits .and .i64 (a : Int) 1 : Sem Value) = pure (.int .i64 (IntKind.i64.wrap ((BitVec.ofInt 64 (a : Int) &&& BitVec.ofInt 64 1).toNat : Int))) := rfl
    rw [hb] at this
    rw [← this]; simp [binOp]
  simp only [execOp, hx, hy, h2, h1, Sem.run_bind, Sem.run_pure, Result.andThen_ok]
  rw [IntWalk.i64_in _ (by omega)]

theorem SL_half {x y : Operand} {t t2 : TypeId} {a : Nat} (hx : ev σ x = .int .i64 (a : Int)) (hy : ev σ y = .int .i64 2) (ha : a ≤ 9223372036854775807)
    (hg : wantedσ ops σ ⟨dst, .binOp .quo t x y t2, ty, pos, aft, gd⟩ = true) (hd : dstOk n dst = true)
    (h : SL P n W q ops Q rest (updO σ dst (.int .i64 ((a / 2 : Nat) : Int))) L) : SL P n W q ops Q (⟨dst, .binOp .quo t x y t2, ty, pos, aft, gd⟩ :: rest) σ L := by
  refine SL_valW _ (Nat.le_of_ble_eq_true rfl) hg hd (fun w => ?_) h
  simp [execOp, hx, hy, go_sem]
  exact IntWalk.i64_in _ (by omega)

theorem SL_mul {x y : Operand} {t t2 : TypeId} {a b : Int} (hx : ev σ x = .int .i64 a) (hy : ev σ y = .int .i64 b)
    (hr : -9223372036854775808 ≤ a * b ∧ a * b ≤ 9223372036854775807)
    (hg : wantedσ ops σ ⟨dst, .binOp .mul t x y t2, ty, pos, aft, gd⟩ = true) (hd : dstOk n dst = true)
    (h : SL P n W q ops Q rest (updO σ dst (.int .i64 (a * b))) L) : SL P n W q ops Q (⟨dst, .binOp .mul t x y t2, ty, pos, aft, gd⟩ :: rest) σ L := by
  refine SL_valW _ (Nat.le_of_ble_eq_true rfl) hg hd (fun w => pureOp_sound ?_ w) h
  simp only [pureOp, hx, hy, pureBin]
  rw [IntWalk.i64_in _ (by omega)]

/-- 'x[i]' of an array of one-cell things, by value. -/
theorem SL_index {x ix : Operand} {t len e : Nat} [hT : ArrT P t len e 1] [hO : OneT P e] {cs : List Value} {i : Nat} {v : Value} (hx : ev σ x = .agg cs.toArray) (hi : ev σ ix = .int .i64 (i : Int)) (hlt : i < len) (hv : cs[i]? = some v)
    (hg : wantedσ ops σ ⟨dst, .index t x ix, ty, pos, aft, gd⟩ = true) (hd : dstOk n dst = true)
    (h : SL P n W q ops Q rest (updO σ dst v) L) :
    SL P n W q ops Q (⟨dst, .index t x ix, ty, pos, aft, gd⟩ :: rest) σ L := by
  refine SL_valW _ (Nat.le_of_ble_eq_true rfl) hg hd (fun w => ?_) h
  obtain ⟨inf, hinf, hs⟩ := hT.info
  obtain ⟨d, h1, h2⟩ := hO.fact
  have hag : (isAgg e).run P w = .ok false w := by
    simp only [isAgg, Sem.run_bind, run_underlying h1, Result.andThen_ok]
    cases d <;> simp_all
  have hsz : (sizeOf e).run P w = .ok 1 w := by simp [sizeOf, typeInfo, hinf, hs]
  have hc : cs.toArray[i]? = some v := by simpa using hv
  simp only [execOp, hx, hi, Instr.index, asIntOf, Sem.run_bind, Sem.run_pure, Result.andThen_ok, run_underlying hT.ul]
  rw [if_pos (by omega)]
  simp only [part, Sem.run_bind, hsz, hag, Result.andThen_ok, Int.toNat_natCast, Nat.mul_one]
  rw [if_neg (by simp)]
  simp only [hc, Sem.run_pure, Result.andThen_ok]

/-- A scope that nobody jumps back into. -/
theorem SC_scope0 {c : Code} (h : SC P n W c (fun e σ' L' => match e with | .goto _ => False | e => Q e σ' L') σ L) : SC P n W (.scope c) Q σ L := by
  unfold SC at h ⊢
  intro a w ha hw
  refine wp_scope_straight (wp_mono (h a w ha hw) ?_)
  rintro e a' w' ⟨σ', L', h1, h2, h3⟩
  cases e
  case goto => exact h3.elim
  all_goals exact ⟨σ', L', h1, h2, h3⟩

/-- A scope with one label, to which the run jumps back, and code ahead of it. -/
theorem SC_scope1 {x rest : Code} (l : Nat) (hf : findLabel x l = none) (I : Nat → St → List Ent → Prop)
    (hx : SC P n W x (normQ (fun σ' L' => ∃ m Lc, Lc.Sublist L' ∧ I m σ' Lc)) σ L)
    (pass : ∀ m σ L, I m σ L → SC P n W rest (fun e σ' L' => match e with | .goto l' => l' = l ∧ ∃ m' Lc, m' < m ∧ Lc.Sublist L' ∧ I m' σ' Lc | e => Q e σ' L') σ L) :
    SC P n W (.scope (x.seq ((Code.label l).seq rest))) Q σ L := by
  have hf' : findLabel (x.seq ((Code.label l).seq rest)) l = some (Code.skip.seq rest) := by simp [findLabel, hf]
  refine SC_scope l hf' I ?_ (fun m σ L h => SC_seq (SC_skip (pass m σ L h)))
  refine SC_seq (hx.mono ?_)
  intro e σ' L' h
  cases e with
  | normal =>
    obtain ⟨m, Lc, hs, hI⟩ := h
    refine SC.drop Lc hs (SC_seq (SC_label ((pass m σ' Lc hI).mono ?_)))
    intro e σ' L' h
    cases e with
    | goto l' => obtain ⟨h1, m', Lc, h2, h3⟩ := h; exact ⟨h1, m', Lc, h3⟩
    | normal => exact h
    | exit _ => exact h
    | ret => exact h
    | panic _ => exact h
    | outgrown => exact h
  | _ => exact h.elim
end
end Go.Proofs.Ytfcljepagnipaaa
