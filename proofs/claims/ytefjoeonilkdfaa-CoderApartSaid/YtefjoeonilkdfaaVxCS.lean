/- A part of the proof: what it shows stands in its theorems. No condition beyond those that they name. -/
import Derived.Test.YtefjoeonilkdfaaVxN
import Derived.Test.YtefjoeonilkdfaaProg
namespace Go.Vx
open Go.Proofs
set_option maxRecDepth 4000

/-! The functions' code. -/

-- "tansy/tansyref01.SameBytes"
def c17_0 : C := .seq (.ops [⟨none, some 5, false, .mov (.tmp 0)⟩,
    ⟨none, some 6, false, .toStr (.tmp 5)⟩,
    ⟨none, some 7, false, .mov (.tmp 1)⟩,
    ⟨none, some 8, false, .toStr (.tmp 7)⟩,
    ⟨none, some 9, false, .bin .eql (.tmp 6) (.tmp 8)⟩,
    ⟨none, some 4, false, .mov (.tmp 9)⟩]) .ret
def c17 : C := .seq (.ops [⟨none, some 4, false, .mov (.const (.bool false))⟩]) c17_0
theorem ok17 : compile Try.prog Try.f17.ntmps (Try.f17.body.getD .skip) = some c17 := by kernel_rfl

end Go.Vx
