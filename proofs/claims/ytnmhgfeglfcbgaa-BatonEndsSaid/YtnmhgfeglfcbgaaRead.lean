/-
  Proved here: what an argument is, when it reads as data (numbers, texts, truth values, structs, slices of these), told in the pieces that the walks use; and a law's row out of its walk: where the function returns true from every such start and leaves alone what was there, the row's promise holds.
  Conditions: the law's result is one truth value; it names no package variable.
-/
import Derived.Test.YtnmhgfeglfcbgaaSess
import Derived.Conc.LeavingOf
import Derived.ProofKit
import Derived.Deep.Slices
import Derived.Deep.Fields
import Derived.Carry
namespace Go.Proofs.Ytnmhgfeglfcbgaa
open Go.ChangeShapes Go.WideShapes Go.ChangeAt Go.RowKit Go.Deep

theorem addr_add2 (b off i j : Nat) : ((⟨b, off, none⟩ : Addr).add i).add j = ⟨b, off + i + j, none⟩ := by
  unfold Addr.add
  by_cases h1 : i = 0
  · by_cases h2 : j = 0
    · simp [h1, h2]
    · simp [h1, h2]
  · by_cases h2 : j = 0
    · simp [h1, h2]
    · simp [h1, h2]
/-- A start: all that is there is old, and may be read. -/
def top (W : World) : WR := { toWorld := W, R := fun k => k < W.heap.size }
def topO (W : World) : WO := { toWorld := W, O := fun _ => False, R := fun k => k < W.heap.size }
theorem snap_at {W : World} {w : WO} (h : Mem (top W) w [snap W]) : ∀ k, k < W.heap.size → w.heap[k]? = W.heap[k]? := by
  have := (h.ok _ (List.mem_cons_self ..)).holds
  unfold snap at this
  exact this

/-- Whatever reads at the type is one of these. -/
def Dec (P : Program) (W : World) (e : TypeId) {α : Type} (enc : α → List Value) (G : α → Prop) : Prop :=
  ∀ (H : Type) (eH : TypeId × Value → H) (fuel : Nat) (cs : List Value) (y : DataW H × List MemPlace), DataW.trod eH P W 0 (fun _ => true) true fuel e cs = some y → ∃ x, cs = enc x ∧ G x

/-- A slice: where it lies, its room, what it holds. -/
structure Sl (α : Type) where
  A : Option Addr
  c : Nat
  l : List α
def slE {α : Type} (s : Sl α) : List Value := [.slice s.A s.l.length s.c]
structure SlOk {α : Type} (W : World) (size : Nat) (enc : α → List Value) (G : α → Prop) (s : Sl α) : Prop where
  le : s.l.length ≤ s.c
  max : s.c ≤ maxLen
  rd : Knows (top W) [snap W] (Rd s.A size enc s.l)
  all : ∀ x ∈ s.l, G x

section
variable {P : Program} {W : World}

theorem Dec.int {t : TypeId} {k : IntKind} (ht : P.underlying t = some (.int k)) : Dec P W t (fun n : Int => [.int k n]) (fun n => (Lit.int k n).wf = true) := by
  intro H eH fuel cs y h
  obtain ⟨n, hc, _, hw⟩ := DataW.trod_int ht h
  exact ⟨n, hc, hw⟩
theorem Dec.bool {t : TypeId} (ht : P.underlying t = some .bool) : Dec P W t (fun b : Bool => [.bool b]) (fun _ => True) := by
  intro H eH fuel cs y h
  obtain ⟨b, hc, _⟩ := DataW.trod_bool ht h
  exact ⟨b, hc, trivial⟩
theorem Dec.string {t : TypeId} (ht : P.underlying t = some .string) : Dec P W t (fun s : ByteArray => [.string s]) (fun s => s.size ≤ maxLen) := by
  intro H eH fuel cs y h
  obtain ⟨b, hc, _, hw⟩ := DataW.trod_string ht h
  exact ⟨b, hc, hw⟩

theorem list_choose {α : Type} {R : Nat → α → Prop} : ∀ len : Nat, (∀ i, i < len → ∃ x, R i x) → ∃ l : List α, l.length = len ∧ ∀ i x, l[i]? = some x → R i x
  | 0, _ => ⟨[], rfl, fun i x h => by simp at h⟩
  | n + 1, h => by
    obtain ⟨l, hl, hr⟩ := list_choose n (fun i hi => h i (by omega))
    obtain ⟨x, hx⟩ := h n (by omega)
    refine ⟨l ++ [x], by simp [hl], fun i y hy => ?_⟩
    by_cases hi : i < l.length
    · rw [List.getElem?_append_left hi] at hy; exact hr i y hy
    · rw [List.getElem?_append_right (by omega)] at hy
      have : i - l.length = 0 := by
        rcases Nat.eq_zero_or_pos (i - l.length) with h0 | h0
        · exact h0
        · rw [List.getElem?_eq_none (by simp; omega)] at hy; cases hy
      rw [this] at hy
      simp at hy
      subst hy
      have : i = n := by omega
      subst this; exact hx

theorem Dec.slice {t e : TypeId} {size : Nat} {α : Type} {enc : α → List Value} {G : α → Prop} [hE : Enc enc size] (ht : P.underlying t = some (.slice e)) (hC : P.cellsOf e = size) (hs : 0 < size) (hd : Dec P W e enc G) :
    Dec P W t slE (SlOk W size enc G) := by
  intro H eH fuel cs y h
  rcases open_slice ht h with ⟨rfl, _⟩ | ⟨a, len, cap, m, n, D, Pl, rfl, _, hl, hm, hmm, _, hi⟩
  · exact ⟨⟨none, 0, []⟩, rfl, Nat.le_refl _, by show 0 ≤ maxLen; omega, fun _ _ => Rd_nil, by simp⟩
  · simp only [if_true] at hmm
    subst hmm
    rw [hC] at hi
    obtain ⟨l, hlen, hr⟩ := list_choose (R := fun i x => W.cells? 0 (a.add (i * size)) size = some (enc x) ∧ G x) len (fun i hil => by
      obtain ⟨cs', hc, ht'⟩ := hi i (by omega)
      obtain ⟨x, rfl, hg⟩ := hd H eH _ _ _ ht'
      exact ⟨x, hc, hg⟩)
    refine ⟨⟨some a, m, l⟩, by simp [slE, hlen], by simp only; omega, hm, ?_, fun x hx => ?_⟩
    · intro w hw hne
      have hcell : ∀ i j x u, l[i]? = some x → (enc x)[j]? = some u → W.cell? ((a.add (i * size)).add j) = some u := fun i j x u hx hu => by
        obtain ⟨_, hl', hat⟩ := World.cells?_some (hr i x hx).1
        have hj : j < size := by have := (List.getElem?_eq_some_iff.1 hu).1; omega
        rw [hat j hj]; exact hu
      obtain ⟨x0, hx0⟩ : ∃ x, l[0]? = some x := by
        cases l with
        | nil => exact absurd rfl hne
        | cons x r => exact ⟨x, rfl⟩
      obtain ⟨u0, hu0⟩ : ∃ u, (enc x0)[0]? = some u := ⟨_, List.getElem?_eq_getElem (by rw [hE.len]; exact hs)⟩
      have h0 := hcell 0 0 x0 u0 hx0 hu0
      obtain ⟨b, off, sp⟩ := a
      have hsp : sp = none ∧ b < W.heap.size := by
        rw [show ((⟨b, off, sp⟩ : Addr).add (0 * size)).add 0 = ⟨b, off, sp⟩ from by simp [Addr.add]] at h0
        unfold World.cell? at h0
        simp only at h0
        split at h0
        · rename_i hb
          refine ⟨?_, (Array.getElem?_eq_some_iff.1 hb).1⟩
          cases sp with
          | none => rfl
          | some s => simp at h0
        · cases h0
      obtain ⟨rfl, hb⟩ := hsp
      refine ⟨b, off, rfl, .inr (by rw [hw.bnd]; exact hb), fun i j x u hx hu => ?_⟩
      have h1 := hcell i j x u hx hu
      have h2 : w.heap[b]? = W.heap[b]? := snap_at hw b hb
      rw [addr_add2] at h1
      unfold World.cell? at h1 ⊢
      simp only at h1 ⊢
      rw [h2, ← Nat.add_assoc]
      exact h1
    · obtain ⟨i, hi', rfl⟩ := List.getElem_of_mem hx
      exact (hr i _ (List.getElem?_eq_getElem hi')).2

theorem trod_field {H : Type} {eH : TypeId × Value → H} {n : Nat} {f : Field} {cs : List Value} {xs : List (DataW H × List MemPlace)} {i off s : Nat} {α : Type} {enc : α → List Value} {G : α → Prop}
    (h : DataW.trod eH P W 0 (fun _ => true) true n f.type ((cs.drop f.offset).take (P.cellsOf f.type)) = xs[i]?) (hi : i < xs.length) (ho : f.offset = off ∧ P.cellsOf f.type = s) (d : Dec P W f.type enc G) : ∃ x, (cs.drop off).take s = enc x ∧ G x := by
  rw [ho.1, ho.2, List.getElem?_eq_getElem hi] at h
  exact d H eH _ _ _ h

theorem Dec.struct1 {t : TypeId} {f0 : Field} {s0 : Nat} {α : Type} {enc0 : α → List Value} {G0 : α → Prop} (ht : P.underlying t = some (.struct #[f0])) (hC : P.cellsOf t = s0)
    (o0 : f0.offset = 0 ∧ P.cellsOf f0.type = s0) (d0 : Dec P W f0.type enc0 G0) : Dec P W t enc0 G0 := by
  intro H eH fuel cs y h
  obtain ⟨xs, n, _, _, hlen, hxl, hf⟩ := DataW.trod_struct ht h
  simp at hxl
  obtain ⟨x, hx, gx⟩ := trod_field (hf 0 f0 rfl) (by omega) o0 d0
  refine ⟨x, ?_, gx⟩
  rw [← hx, List.drop_zero, List.take_of_length_le (by omega)]

theorem Dec.struct2 {t : TypeId} {f0 f1 : Field} {s0 s1 : Nat} {α β : Type} {enc0 : α → List Value} {enc1 : β → List Value} {G0 : α → Prop} {G1 : β → Prop} (ht : P.underlying t = some (.struct #[f0, f1])) (hC : P.cellsOf t = s0 + s1)
    (o0 : f0.offset = 0 ∧ P.cellsOf f0.type = s0) (o1 : f1.offset = s0 ∧ P.cellsOf f1.type = s1) (d0 : Dec P W f0.type enc0 G0) (d1 : Dec P W f1.type enc1 G1) :
    Dec P W t (fun x : α × β => enc0 x.1 ++ enc1 x.2) (fun x => G0 x.1 ∧ G1 x.2) := by
  intro H eH fuel cs y h
  obtain ⟨xs, n, _, _, hlen, hxl, hf⟩ := DataW.trod_struct ht h
  simp at hxl
  obtain ⟨x, hx, gx⟩ := trod_field (hf 0 f0 rfl) (by omega) o0 d0
  obtain ⟨y, hy, gy⟩ := trod_field (hf 1 f1 rfl) (by omega) o1 d1
  refine ⟨(x, y), ?_, gx, gy⟩
  simp only
  rw [← hx, ← hy, List.drop_zero, List.take_of_length_le (l := cs.drop s0) (by simp; omega), List.take_append_drop]

theorem Dec.struct3 {t : TypeId} {f0 f1 f2 : Field} {s0 s1 s2 : Nat} {α β γ : Type} {enc0 : α → List Value} {enc1 : β → List Value} {enc2 : γ → List Value} {G0 : α → Prop} {G1 : β → Prop} {G2 : γ → Prop} (ht : P.underlying t = some (.struct #[f0, f1, f2])) (hC : P.cellsOf t = s0 + s1 + s2)
    (o0 : f0.offset = 0 ∧ P.cellsOf f0.type = s0) (o1 : f1.offset = s0 ∧ P.cellsOf f1.type = s1) (o2 : f2.offset = s0 + s1 ∧ P.cellsOf f2.type = s2) (d0 : Dec P W f0.type enc0 G0) (d1 : Dec P W f1.type enc1 G1) (d2 : Dec P W f2.type enc2 G2) :
    Dec P W t (fun x : α × β × γ => enc0 x.1 ++ enc1 x.2.1 ++ enc2 x.2.2) (fun x => G0 x.1 ∧ G1 x.2.1 ∧ G2 x.2.2) := by
  intro H eH fuel cs y h
  obtain ⟨xs, n, _, _, hlen, hxl, hf⟩ := DataW.trod_struct ht h
  simp at hxl
  obtain ⟨x, hx, gx⟩ := trod_field (hf 0 f0 rfl) (by omega) o0 d0
  obtain ⟨y, hy, gy⟩ := trod_field (hf 1 f1 rfl) (by omega) o1 d1
  obtain ⟨z, hz, gz⟩ := trod_field (hf 2 f2 rfl) (by omega) o2 d2
  refine ⟨(x, y, z), ?_, gx, gy, gz⟩
  simp only
  rw [← hx, ← hy, ← hz, List.drop_zero, List.take_of_length_le (l := cs.drop (s0 + s1)) (by simp; omega), ← List.take_add, List.take_append_drop]

/-- The argument's value, by its type's outer form. -/
theorem arg_slice {H : Type} {eH : TypeId × Value → H} {t e : TypeId} {α : Type} {enc : α → List Value} {G : α → Prop} {r : Reach} {b0 size : Nat} {v : Value} {d : DataW H} {p : List MemPlace} (ht : P.underlying t = some (.slice e))
    (hd : Dec P W t (slE (α := α)) (SlOk W size enc G)) (hv : Value.okWide P W r b0 t v) (h : DataW.Trod eH P W 0 (fun _ => true) true t v d p) : ∃ s : Sl α, v = .slice s.A s.l.length s.c ∧ SlOk W size enc G s := by
  obtain ⟨a, len, cap, rfl⟩ := okWide_slice ht hv
  obtain ⟨fuel, hf⟩ := h
  obtain ⟨s, hs, hg⟩ := hd H eH _ _ _ hf
  refine ⟨s, ?_, hg⟩
  simpa [slE, Value.cells] using hs
theorem arg_struct {H : Type} {eH : TypeId × Value → H} {t : TypeId} {fs : Array Field} {α : Type} {enc : α → List Value} {G : α → Prop} {r : Reach} {b0 : Nat} {v : Value} {d : DataW H} {p : List MemPlace} (ht : P.underlying t = some (.struct fs))
    (hd : Dec P W t enc G) (hv : Value.okWide P W r b0 t v) (h : DataW.Trod eH P W 0 (fun _ => true) true t v d p) : ∃ x : α, v = .agg (enc x).toArray ∧ G x := by
  obtain ⟨cs, rfl, _⟩ := okWide_struct ht hv
  obtain ⟨fuel, hf⟩ := h
  obtain ⟨x, hx, hg⟩ := hd H eH _ _ _ hf
  refine ⟨x, ?_, hg⟩
  simp [Value.cells] at hx
  rw [← hx]
theorem arg_int {H : Type} {eH : TypeId × Value → H} {t : TypeId} {k : IntKind} {r : Reach} {b0 : Nat} {v : Value} {d : DataW H} {p : List MemPlace} (ht : P.underlying t = some (.int k))
    (hv : Value.okWide P W r b0 t v) (h : DataW.Trod eH P W 0 (fun _ => true) true t v d p) : ∃ n, v = .int k n ∧ (Lit.int k n).wf = true := by
  obtain ⟨n, h1, _, _, h2⟩ := open_int ht hv h
  exact ⟨n, h1, h2⟩
theorem arg_bool {H : Type} {eH : TypeId × Value → H} {t : TypeId} {r : Reach} {b0 : Nat} {v : Value} {d : DataW H} {p : List MemPlace} (ht : P.underlying t = some .bool)
    (hv : Value.okWide P W r b0 t v) (_h : DataW.Trod eH P W 0 (fun _ => true) true t v d p) : ∃ b, v = .bool b := okWide_bool ht hv
theorem arg_string {H : Type} {eH : TypeId × Value → H} {t : TypeId} {r : Reach} {b0 : Nat} {v : Value} {d : DataW H} {p : List MemPlace} (ht : P.underlying t = some .string)
    (hv : Value.okWide P W r b0 t v) (h : DataW.Trod eH P W 0 (fun _ => true) true t v d p) : ∃ s : ByteArray, v = .string s ∧ s.size ≤ maxLen := by
  obtain ⟨s, rfl⟩ := okWide_string ht hv
  obtain ⟨fuel, hf⟩ := h
  obtain ⟨s', hs, hg⟩ := Dec.string ht H eH _ _ _ hf
  simp [Value.cells] at hs
  subst hs
  exact ⟨s, rfl, hg⟩

/-- All arguments read on as they did where nothing that was there has turned. -/
theorem trodAll_below {H : Type} {eH : TypeId × Value → H} (hl : laidOutB P = true) {W' : World} (hb : Below W.heap.size W W') : ∀ {ts : List TypeId} {vs : List Value} {ds : List (DataW H)} {ps : List MemPlace},
    (∀ t ∈ ts, P.readableRec t = true ∧ t < P.types.size) → DataW.TrodAll eH P W 0 (fun _ => true) true ts vs ds ps → (∀ x ∈ ps, x.block < W.heap.size) →
    DataW.TrodAll eH P W' 0 (fun b => decide (b < W.heap.size)) true ts vs ds ps
  | [], [], [], _, _, h, _ => h
  | t :: ts, v :: vs, d :: ds, ps, hr, ⟨p, q, h1, h2, e⟩, hlt =>
    ⟨p, q, Below.trod hl (hr t (List.mem_cons_self ..)).1 (hr t (List.mem_cons_self ..)).2 h1 hb (fun x hx => hlt x (by rw [e]; exact List.mem_append_left _ hx)),
      trodAll_below hl hb (fun t ht => hr t (List.mem_cons_of_mem _ ht)) h2 (fun x hx => hlt x (by rw [e]; exact List.mem_append_right _ hx)), e⟩

theorem mem_below {W' : WO} (h : Mem (top W) W' [snap W]) : Below W.heap.size W W' :=
  ⟨h.os, h.tape, h.output, h.size, snap_at h⟩

theorem mem_self (W : World) : Mem (top W) (topO W) [snap W] := by
  have h : ∀ e, e ∈ [snap W] → e = snap W := fun e he => by simpa using he
  refine ⟨rfl, rfl, rfl, Nat.le_refl _, fun e he => ?_, by simp, fun e he k hk hmn => ?_, rfl, fun e he k hk hlt => hlt⟩
  · rw [h e he]
    unfold snap
    exact ⟨fun _ hk => hk, fun _ _ => rfl⟩
  · rw [h e he] at hk hmn
    unfold snap at hk hmn
    rcases hmn with hmn | hmn
    · cases hmn
    · have h1 : k < W.heap.size := hk
      have h2 : W.heap.size ≤ k := hmn
      omega

/-- FROM A CALL'S CONTRACT TO ITS RUN. -/
theorem ends_of_call {Post : Value → World → Prop} {f : FuncId} {args : Array Value} {L : List Ent} {R : Value → List Ent → Prop} (hc : CallS P (BO P Post (top W)) f args L R) (hm : Mem (top W) (topO W) L) (hin : P.inits.idxOf? f = none)
    (hp : ∀ v L' w', R v L' → Mem (top W) w' L' → Post v w'.toWorld) : Ends P Post (Conc.solo (Conc.G (Frame.enter P f args .normal) []) W) #[] := by
  unfold CallS at hc
  obtain ⟨fn, c, hf, hb, hnm, hna, hbody⟩ := hc
  refine Well.start (ty := 0) (wg := 0) ?_
  rw [Conc.enter_at args hf hb]
  have hleave : ∀ (todo : List Item) (σ' : St) (L' : List Ent), (∀ (a' : Act) (w' : WO), Rep fn.ntmps σ' a' → Mem (top W) w' L' → ∃ v, (results fn a'.tmps).run P w' = .ok v w' ∧ (results fn a'.tmps).events P w' #[] = #[] ∧ ∃ L'', Mem (top W) w' L'' ∧ R v L'') →
      At fn.ntmps ((BO P Post (top W)).fix ()) () (fun a' => Conc.G { (Conc.base f).at a' todo with mode := .returning } []) σ' L' := by
    intro todo σ' L' q a' w' ha' hw' n ty1 wg1
    refine Well.done rfl fun w₁ r => ?_
    obtain ⟨v, h1, h2, L'', h3, h4⟩ := q a' { toWorld := w₁, O := w'.O, R := w'.R } ha' (hw'.rl r)
    refine ⟨v, ?_, hp v L'' _ h4 h3⟩
    have hd := ha'.defers
    have hf' : P.funcs[f]? = some fn := hf
    have h1' : (results fn a'.tmps).run P w₁ = .ok v w₁ := h1
    have h2' : (results fn a'.tmps).events P w₁ #[] = #[] := h2
    simp [Conc.G, stepG, unwind, doReturn, Frame.at, Conc.base, hd, hf', hin, h1', h2', seen, GStep.after]
  have hb0 := hbody ()
  unfold SC at hb0
  have := hb0 (Conc.base f) [] [] (by simp [Conc.base]) (fun e σ' L' γ' q => ?_) _ (topO W) (rep_enter fn args hna) hm
  · exact this 1 0 0
  cases e with
  | normal => exact At.idle (fun _ => rfl) (fun _ _ _ => Conc.stepG_end) (hleave [] σ' L' q)
  | ret => exact fun todo => hleave todo σ' L' q
  | exit id => exact q.elim
  | goto l => exact q.elim
  | panic ch => exact q.elim
  | outgrown => exact q.elim

/-- What the row asks behind the call. -/
theorem post_true {H : Type} {eH : TypeId × Value → H} {fn : Func} {s : ChangeSpec} {W' : WO} {args : Array Value} {ds gs : List (DataW H)} {before : List MemPlace} {b : TypeId} (hl : laidOutB P = true)
    (hr : ∀ t ∈ fn.params.toList, P.readableRec t = true ∧ t < P.types.size) (hb : P.underlying b = some .bool) (hres : fn.resultTypes = #[b]) (hvars : s.vars = [])
    (hfn : ∀ ds : List (DataW H), ds.length = fn.params.size → s.fn H ds = { results := [.lit (.bool true)], args := ds })
    (hW : DataW.Whole eH P fn.params.toList s.vars false W args.toList ds gs before) (hm : Mem (top W) W' [snap W]) : s.post eH P fn false true false false W args (.bool true) W' := by
  have hlt : ∀ x ∈ before, x.block < W.heap.size := fun x hx => hW.lt x hx
  have hW0 := hW
  obtain ⟨p, q, hA, hV, hpq, _, _⟩ := hW0
  have hds : ds.length = fn.params.size := by
    have : ∀ {ts : List TypeId} {vs : List Value} {ds : List (DataW H)} {ps : List MemPlace}, DataW.TrodAll eH P W 0 (fun _ => true) true ts vs ds ps → ds.length = ts.length := by
      intro ts
      induction ts with
      | nil => intro vs ds ps h; obtain ⟨_, rfl, _⟩ := trodAll_nil h; rfl
      | cons t ts ih =>
        intro vs ds ps h
        obtain ⟨v, vs', d, ds', p, q, rfl, rfl, rfl, _, h2⟩ := trodAll_cons h
        simp [ih h2]
    simpa using this hA
  rw [hvars] at hV
  have hgs : gs = [] ∧ q = [] := by
    cases gs with
    | nil => exact ⟨rfl, hV⟩
    | cons g r => exact hV.elim
  obtain ⟨rfl, rfl⟩ := hgs
  have hf : s.fn H (ds ++ []) = { results := [.lit (.bool true)], args := ds } := by rw [List.append_nil]; exact hfn ds hds
  refine ⟨ds, [], before, [], p, [], hW, ?_, ?_, ?_, ?_, fun h => by cases h⟩
  · rw [hf, hres]
    exact trodAll_mk1 ⟨1, by simp [DataW.trod, Value.cells, hb]⟩
  · rw [hf]
    exact trodAll_below hl (mem_below hm) hr hA (fun x hx => hlt x (by rw [hpq]; simpa using hx))
  · rw [hf, hvars]; rfl
  · refine World.keptBut_mono (fun x hx => ⟨hx, ?_⟩) ((mem_below hm).frame (· ∈ before))
    rw [hpq] at hx
    exact .inr (.inl (by simpa using hx))
end
end Go.Proofs.Ytnmhgfeglfcbgaa
