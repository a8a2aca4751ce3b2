/-
  The run of TopSpawns at the number 15, by the kernel.
-/
import Derived.Test.YtaebgjlinhmajaaGreatHookC
import Derived.KernelRfl
namespace Go.Eng
open Go.Proofs
theorem spawns15 : okRes (tailRun Tryz.f4 200 (15 : Nat)) = true := by kernel_rfl
end Go.Eng
