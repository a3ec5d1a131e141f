/- Part of a proof that the laws of this seat return true: a machine over plain data (Idl) that is sound for the given model, and its runs. Conditions: none. -/
import Derived.Test.YtemfbebfodagpaaTabRO
set_option linter.all false
namespace Go.Proofs.TryI
open Go Go.Idl Go.Proofs
theorem runs : runF T 400 3 [] [] = some (.dd (.bool true), []) := by kernel_rfl
end Go.Proofs.TryI
