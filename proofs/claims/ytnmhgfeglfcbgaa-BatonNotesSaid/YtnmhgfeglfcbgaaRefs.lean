/-
  Proved here: what the shared functions of the statements compute: whether two lists of notes, or of numbers, are the same; whether the programs are few; how far a program is; whether another holds a lock.
  Conditions: none beyond each law's own.
-/
import Derived.Test.YtnmhgfeglfcbgaaAble
namespace Go.Proofs.Ytnmhgfeglfcbgaa
open Go.Conc
set_option maxRecDepth 100000

theorem act_same (d : Nat) (w : World) (a b c e : Int) : (Op.equalIn (d + 1 + 1) 35 (.agg #[.int .i64 a, .int .i64 b]) (.agg #[.int .i64 c, .int .i64 e])).run Try.prog w = .ok (a == c && b == e) w ∧
    (Op.equalIn (d + 1 + 1) 35 (.agg #[.int .i64 a, .int .i64 b]) (.agg #[.int .i64 c, .int .i64 e])).events Try.prog w #[] = #[] := by
  have h35 : Try.prog.underlying 35 = _ := Try.underlying35
  have h3 : Try.prog.underlying 3 = _ := Try.underlying3
  have hs : Try.prog.stoodInHeld 35 = false := by kernel_rfl
  have hs3 : Try.prog.stoodInHeld 3 = false := by kernel_rfl
  constructor
  · simp [go_sem]
    by_cases h1 : a = c <;> by_cases h2 : b = e <;> simp [h1, h2]
  · simp [Op.equalIn, run_underlying h35, run_underlying h3, run_program, hs, hs3, go_sem]
theorem num_same (d : Nat) (w : World) (a b : Int) : (Op.equalIn (d + 1) 3 (.int .i64 a) (.int .i64 b)).run Try.prog w = .ok (a == b) w ∧ (Op.equalIn (d + 1) 3 (.int .i64 a) (.int .i64 b)).events Try.prog w #[] = #[] := by
  have h3 : Try.prog.underlying 3 = _ := Try.underlying3
  constructor <;> simp [Op.equalIn, run_underlying h3]
theorem note_noEvents' (d : Nat) (hN : ∀ w a b, (Op.equalIn d 3 (.int .i64 a) (.int .i64 b)).run Try.prog w = .ok (a == b) w ∧ (Op.equalIn d 3 (.int .i64 a) (.int .i64 b)).events Try.prog w #[] = #[])
    (hA : ∀ w a b c e, (Op.equalIn d 35 (.agg #[.int .i64 a, .int .i64 b]) (.agg #[.int .i64 c, .int .i64 e])).run Try.prog w = .ok (a == c && b == e) w ∧ (Op.equalIn d 35 (.agg #[.int .i64 a, .int .i64 b]) (.agg #[.int .i64 c, .int .i64 e])).events Try.prog w #[] = #[])
    (w : World) (a b c e f g : Int) : (Op.equalIn (d + 1) 37 (.agg #[.int .i64 a, .int .i64 b, .int .i64 c]) (.agg #[.int .i64 e, .int .i64 f, .int .i64 g])).events Try.prog w #[] = #[] := by
  have h37 : Try.prog.underlying 37 = _ := Try.underlying37
  have hs : Try.prog.stoodInHeld 37 = false := by kernel_rfl
  have h1 := fun w a b => (hN w a b).1
  have h2 := fun w a b => (hN w a b).2
  have h3 := fun w a b c e => (hA w a b c e).1
  have h4 := fun w a b c e => (hA w a b c e).2
  have hi5 : ∀ w es, (part 35 #[.int .i64 a, .int .i64 b, .int .i64 c] 1).run Try.prog w = .ok (.agg #[.int .i64 b, .int .i64 c]) w ∧ (part 35 #[.int .i64 a, .int .i64 b, .int .i64 c] 1).events Try.prog w es = es := fun w es => ⟨rfl, rfl⟩
  have hi6 : ∀ w es, (part 35 #[.int .i64 e, .int .i64 f, .int .i64 g] 1).run Try.prog w = .ok (.agg #[.int .i64 f, .int .i64 g]) w ∧ (part 35 #[.int .i64 e, .int .i64 f, .int .i64 g] 1).events Try.prog w es = es := fun w es => ⟨rfl, rfl⟩
  have hi7 := fun w => (hi5 w #[]).1
  have hi8 := fun w => (hi6 w #[]).1
  have hi9 := fun w es => (hi5 w es).2
  have hi0 := fun w es => (hi6 w es).2
  rw [Op.equalIn.eq_def]
  simp [run_underlying h37, run_program, hs, h1, h2, h3, h4, hi7, hi8, hi9, hi0, go_sem]
theorem note_noEvents (d : Nat) (w : World) (a b c e f g : Int) : (Op.equalIn (d + 1 + 1 + 1) 37 (.agg #[.int .i64 a, .int .i64 b, .int .i64 c]) (.agg #[.int .i64 e, .int .i64 f, .int .i64 g])).events Try.prog w #[] = #[] :=
  note_noEvents' _ (fun w a b => num_same _ w a b) (fun w a b c e => act_same _ w a b c e) w a b c e f g
theorem note_guard (w : World) (op : BinOp) (X Y : Operand) (xs ys : Array Value) : (eqGuard op 37 X Y (.agg xs) (.agg ys)).events Try.prog w #[] = #[] := by
  have hm : Try.prog.eqGuardType Try.prog.depth 37 = false := by kernel_rfl
  cases op <;> simp [eqGuard, run_program, hm]
instance : EqL Try.prog 37 ntC where
  guard := fun op X Y x y w => by
    refine ⟨?_, note_guard w op X Y _ _⟩
    apply run_eqGuard_agg
    kernel_rfl
  eql := fun x y w => by
    obtain ⟨a, s, u⟩ := x; obtain ⟨b, t, v⟩ := y
    simp only [ntC]
    constructor
    · simp [go_sem]
      by_cases h1 : a = b <;> by_cases h2 : s = t <;> by_cases h3 : u = v <;> simp [h1, h2, h3]
    · have h : (Op.equalIn 10000 37 (.agg #[.int .i64 a, .int .i64 s, .int .i64 u]) (.agg #[.int .i64 b, .int .i64 t, .int .i64 v])).events Try.prog w #[] = #[] := note_noEvents 9997 w a s u b t v
      simp [binOp, Op.equal, Op.maxDepth, h, go_sem]
  neq := fun x y w => by
    obtain ⟨a, s, u⟩ := x; obtain ⟨b, t, v⟩ := y
    simp only [ntC]
    constructor
    · simp [go_sem]
      by_cases h1 : a = b <;> by_cases h2 : s = t <;> by_cases h3 : u = v <;> simp [h1, h2, h3]
    · have h : (Op.equalIn 10000 37 (.agg #[.int .i64 a, .int .i64 s, .int .i64 u]) (.agg #[.int .i64 b, .int .i64 t, .int .i64 v])).events Try.prog w #[] = #[] := note_noEvents 9997 w a s u b t v
      simp [binOp, Op.equal, Op.maxDepth, h, go_sem]
end Go.Proofs.Ytnmhgfeglfcbgaa
