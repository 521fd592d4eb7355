/-
  Proved here: what the arguments of the watch layer's statements are.
-/
import Derived.Test.YthfphhplghahjaaTells
import Derived.Test.YthfphhplghahjaaRead
namespace Go.Proofs.Ythfphhplghahjaa
set_option maxRecDepth 100000

theorem Try.own : ownKnob Try.prog.godebug = none := by kernel_rfl
theorem Try.laidOut : laidOutB Try.prog = true := by kernel_rfl

def evG (e : Ev) : Prop := (Lit.int .i64 e.1).wf = true ∧ e.2.size ≤ maxLen
theorem dec_ev (W : World) : Dec Try.prog W 37 evC evG := Dec.struct2 (s0 := 1) (s1 := 1) rfl (by kernel_rfl) ⟨rfl, by kernel_rfl⟩ ⟨rfl, by kernel_rfl⟩ (Dec.int rfl) (Dec.string rfl)
theorem dec_evs (W : World) : Dec Try.prog W 22 slE (SlOk W 2 evC evG) := Dec.slice rfl (by kernel_rfl) (by omega) (dec_ev W)
theorem dec_qu (W : World) : Dec Try.prog W 24 (fun x : Sl Ev × Bool => slE x.1 ++ [.bool x.2]) (fun x => SlOk W 2 evC evG x.1 ∧ True) := Dec.struct2 (s0 := 1) (s1 := 1) rfl (by kernel_rfl) ⟨rfl, by kernel_rfl⟩ ⟨rfl, by kernel_rfl⟩ (dec_evs W) (Dec.bool rfl)
def actC (a : Sl Ev × Int) : List Value := slE a.1 ++ [.int .i64 a.2]
instance : Enc actC 2 := ⟨fun _ => rfl, fun x v hv => by simp [actC, slE] at hv; rcases hv with rfl | rfl <;> rfl⟩
def actG (W : World) (a : Sl Ev × Int) : Prop := SlOk W 2 evC evG a.1 ∧ (Lit.int .i64 a.2).wf = true
theorem dec_act (W : World) : Dec Try.prog W 35 actC (actG W) := Dec.struct2 (s0 := 1) (s1 := 1) rfl (by kernel_rfl) ⟨rfl, by kernel_rfl⟩ ⟨rfl, by kernel_rfl⟩ (dec_evs W) (Dec.int rfl)
theorem dec_acts (W : World) : Dec Try.prog W 33 slE (SlOk W 2 actC (actG W)) := Dec.slice rfl (by kernel_rfl) (by omega) (dec_act W)
theorem wf_i64 {n : Int} (h : (Lit.int .i64 n).wf = true) : -9223372036854775808 ≤ n ∧ n ≤ 9223372036854775807 := by
  simpa [Lit.wf, IntKind.min, IntKind.max, IntKind.signed, IntKind.bits] using h
theorem wf_u8 {n : Int} (h : (Lit.int .u8 n).wf = true) : 0 ≤ n ∧ n ≤ 255 := by
  simpa [Lit.wf, IntKind.min, IntKind.max, IntKind.signed, IntKind.bits] using h
theorem maxLen_le {n c : Nat} (h : n ≤ c) (hc : c ≤ maxLen) : n ≤ 9223372036854775807 := by unfold maxLen at hc; omega
theorem CallS.pure {P : Program} {W : World} {f : FuncId} {args : Array Value} {L : List Ent} {R : Value → List Ent → Prop} {φ : Prop} (hφ : ∀ w, Mem W w L → φ) (h : φ → CallS P W f args L R) : CallS P W f args L R :=
  CallS.of fun w hw => (h (hφ w hw)).out w hw
/-- An act that can be read wherever L holds. -/
structure ActOk (W : World) (L : List Ent) (a : Sl Ev × Int) : Prop where
  rd : Knows W L (Rd a.1.A 2 evC a.1.l)
  le : a.1.l.length ≤ a.1.c
  mx : a.1.l.length ≤ 9223372036854775807
  nb : -9223372036854775808 ≤ a.2 ∧ a.2 ≤ 9223372036854775807
theorem actOk {W : World} {a : Sl Ev × Int} (h : actG W a) : ActOk W [snap W] a := ⟨h.1.rd, h.1.le, maxLen_le h.1.le h.1.max, wf_i64 h.2⟩
theorem takeR_spec (W : World) (L : List Ent) (A : Option Addr) (c : Nat) (q : Qu) (n : Int) (l1 l2 : List Ev) (h1 : q.1.drop (takeK q n) = l1) (h2 : q.1.take (takeK q n) = l2) (hql : q.1.length ≤ 100000) (hn : -9223372036854775808 ≤ n ∧ n ≤ 9223372036854775807) (hm : rowT 37 2 evC A c q.1 ∈ L) :
    CallS Try.prog W 10 #[.agg #[.slice A q.1.length c, .bool q.2], .int .i64 n] L
      (fun v L' => ∃ A1 c1 A2 c2, v = .tuple #[.agg #[.slice A1 l1.length c1, .bool q.2], .slice A2 l2.length c2] ∧
        L' = rowT 37 2 evC A2 c2 l2 :: rowT 37 2 evC A1 c1 l1 :: L) := by
  subst h1; subst h2
  exact CallS.pure (fun _ hw => (rowT_cap hm hw).1) fun hc => take_spec W L A c q n hql hc hn (rowT_Rd hm)
theorem take_parts (q : Qu) (n : Int) : ∃ l1 l2, q.1.drop (takeK q n) = l1 ∧ q.1.take (takeK q n) = l2 ∧ q.1 = l2 ++ l1 ∧ l2.length + l1.length = q.1.length :=
  ⟨_, _, rfl, rfl, (List.take_append_drop _ _).symm, by rw [← List.length_append, List.take_append_drop]⟩
theorem act0 (a : Sl Ev × Int) : (actC a)[0]? = some (.slice a.1.A a.1.l.length a.1.c) := rfl
theorem act1 (a : Sl Ev × Int) : (actC a)[1]? = some (.int .i64 a.2) := rfl
end Go.Proofs.Ythfphhplghahjaa
