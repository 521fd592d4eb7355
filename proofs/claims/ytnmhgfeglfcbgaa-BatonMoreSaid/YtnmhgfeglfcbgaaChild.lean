/-
  Proved here: a thread's goroutine, from its birth on: it plays, and joins the group.
  Conditions: none beyond each law's own.
-/
import Derived.Test.YtnmhgfeglfcbgaaPlay
import Derived.Test.YtnmhgfeglfcbgaaWgl
import Derived.Conc.WgGenN3
namespace Go.Proofs.Ytnmhgfeglfcbgaa
open Go.Conc
open Go.ConcN (WgLive)
set_option maxRecDepth 100000

noncomputable def bot : Frame := { (default : Frame) with fn := Try.prog.funcs.size, defers := [], mode := .panicking [goexitEntry] }
/-- What the go statement holds. -/
def dRun (wg C : Nat) : Deferred := { target := .fn (.func 18) #[.pointer (some ⟨wg, 0, none⟩), .pointer (some ⟨C, 0, none⟩)], args := #[] }

theorem quitsTail (T : Array Value) : QuitsD Try.prog 2 0 (G { (baseD 18).at ⟨T, []⟩ [] with mode := .returning } [bot]) := by
  refine QuitsD.ctl (g' := G bot []) rfl (fun w => ?_) ?_
  · simp [G, stepG, unwind, doReturn, results, Frame.at, baseD, bot, Try.func18, Try.f18, seen, GStep.after, goexitEntry]
  refine QuitsD.ctl (g' := { G bot [] with status := .finished }) rfl (fun w => ?_) ⟨rfl, rfl⟩
  simp [G, stepG, unwind, bot, goexitEntry, Frame.catches]
  rfl

theorem born_step (wg C : Nat) (w : World) : stepG Try.prog false (born Try.prog (dRun wg C)) w =
    .go (G ((baseD 18).at ⟨#[.pointer (some ⟨wg, 0, none⟩), .pointer (some ⟨C, 0, none⟩), undef, undef], []⟩ [.code (Try.f18.body.getD .skip)]) [bot]) w #[] := by
  simp [born, dRun, stepG, unwind, callDeferred, invoke, callFunc, Try.func18, Try.f18, seen, GStep.after, G, Frame.enter, Frame.at, baseD, bot]

theorem child_ok (w0 : WR) (wg C : Nat) (L : List Ent) (A : Option Addr) (cap num b c : Nat) (acts : List Akt) (hl : acts.length ≤ 9223372036854775807) (ha : Knows w0 L (Rd A 2 acC acts)) :
    AtL (BW Try.prog w0 53 wg (wkOf num acts b c)) (Ph.R 0) (born Try.prog (dRun wg C)) (blk C 58 (plV num A acts cap b c) :: L) := by
  refine AtL.idle rfl (fun w => born_step wg C w) ?_
  simp only [Try.f18, Option.getD_some]
  refine AtL.idle rfl (fun w => stepG_seq) ?_
  refine AtL.idle rfl (fun w => stepG_region) ?_
  refine AtL.idle rfl (fun w => stepG_defer rfl rfl (by simp [baseD]) rfl) ?_
  refine AtL.idle rfl (fun w => stepG_region_end) ?_
  refine AtL.idle rfl (fun w => stepG_region) ?_
  refine AtL.op (K := fun v L' ph => v = .agg (plV num A acts cap b c).toArray ∧ L' = blk C 58 (plV num A acts cap b c) :: L ∧ ph = Ph.R 0) ?_ rfl rfl (ev_act _) (by simp [baseD]) ?_
  · have hb : ∀ w : WO, Mem w0 w (blk C 58 (plV num A acts cap b c) :: L) → w.heap[C]? = some (.cells (plV num A acts cap b c).toArray 58 (0, 0)) ∧ w.rd C := fun w hw => by
      have h1 := (hw.ok _ m0).holds
      have h2 : (blk C 58 (plV num A acts cap b c)).S C := by unfold blk; rfl
      have h3 := hw.rd m0 h2
      unfold blk at h1
      exact ⟨h1, h3⟩
    refine XL_val (ValOp.loadA (s := 4) (cs := plV num A acts cap b c) (a := ⟨C, 0, none⟩) rfl rfl (by decide) (fun w hw => ⟨fun j v hj => ?_, (hb w hw).2⟩)) ⟨rfl, rfl, rfl⟩
    rw [Addr.add_lit, cell_of_row w C _ _ 58 (0, 0) (hb w hw).1]; simpa using hj
  rintro _ _ _ ⟨rfl, rfl, rfl⟩
  have hp := play_spec w0 wg (blk C 58 (plV num A acts cap b c) :: L) A cap num b c acts hl (ha.cons _)
  refine AtL.op (K := fun v L' ph => v = .tuple #[] ∧ L' = blk C 58 (plV num A acts cap b c) :: L ∧ ph = Ph.D0) ?_ rfl rfl (ev_act _) (by simp [baseD]) ?_
  · exact XL_callG (fun w => (run_call (fst := []) (cap := []) rfl hp.enters w).1) (fun w => (run_call (fst := []) (cap := []) rfl hp.enters w).2) hp
  rintro _ _ _ ⟨rfl, rfl, rfl⟩
  refine AtL.idle rfl (fun w => stepG_region_end) ?_
  refine AtL.idle rfl (fun w => stepG_end) ?_
  intro w hw
  refine bwStep rfl fun w₁ h₁ => ?_
  refine ⟨_, w₁, #[], stepG_unwind_enter rfl Try.func19 (Go.ConcR.Gen.nm_done wlink) rfl, Kept.idle _ _ _, .inr ?_⟩
  rcases Classical.em (w.O wg) with hO | hO
  · exact .inl (.inl hO)
  right
  rw [show (fun k => w.O k ∨ (w₁.heap.size ≤ k ∧ k < w₁.heap.size)) = w.O from WO.same { toWorld := w₁, O := w.O, R := w.R }]
  have hw1 := hw.rl h₁.rl
  have hS : (blk C 58 (plV num A acts cap b c)).S C := by unfold blk; rfl
  have hC : w.O C := hw1.own _ m0 C hS (.inl (by unfold blk; rfl))
  have hlt : C < w₁.heap.size := (hw1.ok _ m0).lt C hS
  have hhas : Go.ConcN.Has C 0 (.int .i64 num) w₁ := by
    have h1 := (hw1.ok _ m0).holds
    unfold blk at h1
    show w₁.cell? _ = _
    rw [cell_of_row w₁ C _ _ 58 (0, 0) h1]; rfl
  have hA := @Go.ConcN.Gen.doneN _ wlink Try.prog wgLib (fun _ _ => False) (fun _ _ => False) wg C 4 0 1 (.int .i64 num)
  simp only [Go.ConcR.Gen.body_done, Go.Conc.Lib.doneFn, Option.getD_some] at hA
  walk_nrm
  exact of_R0 hC hO _ hlt h₁.sz h₁.live (hA rfl (quitsTail _) w₁ ⟨h₁.live, hhas⟩)
end Go.Proofs.Ytnmhgfeglfcbgaa
