/- Part of a proof that the laws of this seat return true: a machine over plain data (Idl) that is sound for the given model, and its runs. Conditions: none. -/
import Derived.Test.YtemfbebfodagpaaTabRF
set_option linter.all false
namespace Go.Proofs.TryI
open Go Go.Idl Go.Proofs
theorem extOk : ExtOk Try.prog T := by
  intro σ H h w ρ ρr o ty v h' _ _ e
  exact nomatch e
theorem runOk : RunOk Try.prog T := { ty := tys.ty, eqs := eqAll, ext := extOk, prim := fun _ _ e => (nomatch e), glob := fun _ => rfl }
theorem readOk : ReadOk T := { snap := fun _ _ => rfl, ext := fun _ _ _ _ _ _ _ _ _ e => (nomatch e) }
theorem mixed : Try.prog.follows Departure.mixedOrders = true := by kernel_rfl
end Go.Proofs.TryI
