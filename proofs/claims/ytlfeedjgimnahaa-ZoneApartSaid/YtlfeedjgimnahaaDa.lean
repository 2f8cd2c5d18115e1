/- Contracts of disk.power.IsOn and Disk.IsOn: they answer whether the power is there; for a disk that lies in memory. -/
import Derived.Test.YtlfeedjgimnahaaProg
import Derived.WalkKit
import Derived.KernelRfl
namespace Go.Proofs.Ytlfeedjgimnahaa
open Go.RowKit
set_option linter.unusedVariables false

theorem powerIsOn (b o : Nat) (away : Bool) (w : World) (h : w.cell? ⟨b, o, none⟩ = some (.bool away)) :
    Calls Try.prog 33 #[.pointer (some ⟨b, o, none⟩)] w fun e w' => e = .returned (.bool (!away)) ∧ w = w' := by
  go_enter Try.func33, Try.ntmps33
  go_wp2
  go_ret
  exact ⟨rfl, rfl⟩

theorem diskIsOn (b : Nat) (away : Bool) (w : World) (h : w.cell? ⟨b, 0, none⟩ = some (.bool away)) :
    Calls Try.prog 12 #[.pointer (some ⟨b, 0, none⟩)] w fun e w' => e = .returned (.bool (!away)) ∧ w = w' := by
  go_enter Try.func12, Try.ntmps12
  go_wp2_with (go_at_call 33; refine (powerIsOn _ _ _ _ h).mono ?_; rintro e w' ⟨rfl, rfl⟩)
  go_ret
  exact ⟨rfl, rfl⟩

end Go.Proofs.Ytlfeedjgimnahaa
