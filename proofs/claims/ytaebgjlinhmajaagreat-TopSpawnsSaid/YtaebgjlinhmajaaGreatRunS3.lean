/-
  The run of TopSpawns at the number 3, by the kernel.
-/
import Derived.Test.YtaebgjlinhmajaaGreatHookC
import Derived.KernelRfl
namespace Go.Eng
open Go.Proofs
theorem spawns3 : okRes (tailRun Tryz.f4 200 (3 : Nat)) = true := by kernel_rfl
end Go.Eng
