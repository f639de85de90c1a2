/- What a slice of numbers reads as. -/
import Derived.Test.YtoihfamiclbffaaLib
namespace Go.Proofs.Ytoihfamiclbffaa
open Go.RowKit
def NumsAt (k : IntKind) (w : World) (a : Option Addr) (l : List Int) : Prop := ∀ i, i < l.length → ∃ b o, a = some ⟨b, o, none⟩ ∧ w.cell? ⟨b, o + i, none⟩ = some (.int k (l.getD i 0))
end Go.Proofs.Ytoihfamiclbffaa
