/-
  Proved here: what is known of a table that lies in a piece.
-/
import Derived.Test.YtakdagfnknmjjaaAwake
namespace Go.Proofs.Ytakdagfnknmjjaa
/-- Where a table that lies in a piece is read. -/
structure In (W : World) (L : List Ent) (A B : Option Addr) (t : Tb) : Prop where
  a : Knows W L (Rd A 2 hoC t.1)
  b : Knows W L (Rd B 2 hoC t.2)
theorem In.sub {W : World} {L L' : List Ent} {A B : Option Addr} {t : Tb} (h : In W L A B t) (hs : L.Sublist L') : In W L' A B t := ⟨h.a.sub hs, h.b.sub hs⟩
theorem In.weaken {W : World} {L L' : List Ent} {A B : Option Addr} {t : Tb} (h : In W L A B t) (hL : ∀ w, Mem W w L' → Mem W w L) : In W L' A B t := ⟨fun w hw => h.a w (hL w hw), fun w hw => h.b w (hL w hw)⟩

end Go.Proofs.Ytakdagfnknmjjaa
