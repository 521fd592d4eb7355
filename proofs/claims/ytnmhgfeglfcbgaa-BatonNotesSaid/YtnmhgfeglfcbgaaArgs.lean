/-
  Proved here: what the arguments of the baton layer's statements are.
-/
import Derived.Test.YtnmhgfeglfcbgaaAwake
import Derived.Test.YtnmhgfeglfcbgaaRead
namespace Go.Proofs.Ytnmhgfeglfcbgaa
set_option maxRecDepth 100000

theorem Try.own : ownKnob Try.prog.godebug = none := by kernel_rfl
theorem Try.laidOut : laidOutB Try.prog = true := by kernel_rfl

def hoG (h : Ho) : Prop := (Lit.int .i64 h.1).wf = true ∧ (Lit.int .i64 h.2).wf = true
def acG (a : Akt) : Prop := (Lit.int .i64 a.1).wf = true ∧ (Lit.int .i64 a.2).wf = true
def inG (n : Int) : Prop := (Lit.int .i64 n).wf = true
theorem dec_ho (W : World) : Dec Try.prog W 43 hoC hoG := Dec.struct2 (s0 := 1) (s1 := 1) rfl (by kernel_rfl) ⟨rfl, by kernel_rfl⟩ ⟨rfl, by kernel_rfl⟩ (Dec.int rfl) (Dec.int rfl)
theorem dec_hos (W : World) : Dec Try.prog W 24 slE (SlOk W 2 hoC hoG) := Dec.slice rfl (by kernel_rfl) (by omega) (dec_ho W)
theorem dec_in (W : World) : Dec Try.prog W 3 inC inG := Dec.int rfl
theorem dec_ins (W : World) : Dec Try.prog W 23 slE (SlOk W 1 inC inG) := Dec.slice rfl (by kernel_rfl) (by omega) (dec_in W)
theorem dec_ac (W : World) : Dec Try.prog W 35 acC acG := Dec.struct2 (s0 := 1) (s1 := 1) rfl (by kernel_rfl) ⟨rfl, by kernel_rfl⟩ ⟨rfl, by kernel_rfl⟩ (Dec.int rfl) (Dec.int rfl)
/-- A program, as it is handed over. -/
def pgG (W : World) (p : Pg) : Prop := SlOk W 2 acC acG ⟨p.1, p.2.1, p.2.2⟩
theorem dec_pg (W : World) : Dec Try.prog W 38 pgC (pgG W) := by
  intro H eH fuel cs y h
  obtain ⟨s, h1, h2⟩ := (show Dec Try.prog W 38 slE (SlOk W 2 acC acG) from Dec.slice rfl (by kernel_rfl) (by omega) (dec_ac W)) H eH fuel cs y h
  exact ⟨(s.A, s.c, s.l), h1, h2⟩
theorem dec_pgs (W : World) : Dec Try.prog W 22 slE (SlOk W 1 pgC (pgG W)) := Dec.slice rfl (by kernel_rfl) (by omega) (dec_pg W)
theorem maxLen_le {n c : Nat} (h : n ≤ c) (hc : c ≤ maxLen) : n ≤ 9223372036854775807 := by unfold maxLen at hc; omega
theorem wf_i64 {n : Int} (h : (Lit.int .i64 n).wf = true) : -9223372036854775808 ≤ n ∧ n ≤ 9223372036854775807 := by
  simpa [Lit.wf, IntKind.min, IntKind.max, IntKind.signed, IntKind.bits] using h
theorem pgs_in {W : World} {l : Sl Pg} (h : SlOk W 1 pgC (pgG W) l) : ∀ p ∈ l.l, p.2.2.length ≤ 9223372036854775807 ∧ Knows (top W) [snap W] (Rd p.1 2 acC p.2.2) :=
  fun p hp => ⟨maxLen_le (h.all p hp).le (h.all p hp).max, (h.all p hp).rd⟩
end Go.Proofs.Ytnmhgfeglfcbgaa
