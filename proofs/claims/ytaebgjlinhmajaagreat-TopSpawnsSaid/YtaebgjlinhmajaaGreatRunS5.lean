/-
  The run of TopSpawns at the number 5, by the kernel.
-/
import Derived.Test.YtaebgjlinhmajaaGreatHookC
import Derived.KernelRfl
namespace Go.Eng
open Go.Proofs
theorem spawns5 : okRes (tailRun Tryz.f4 200 (5 : Nat)) = true := by kernel_rfl
end Go.Eng
