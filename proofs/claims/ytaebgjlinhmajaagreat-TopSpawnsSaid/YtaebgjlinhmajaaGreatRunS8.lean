/-
  The run of TopSpawns at the number 8, by the kernel.
-/
import Derived.Test.YtaebgjlinhmajaaGreatHookC
import Derived.KernelRfl
namespace Go.Eng
open Go.Proofs
theorem spawns8 : okRes (tailRun Tryz.f4 200 (8 : Nat)) = true := by kernel_rfl
end Go.Eng
