/-
  The run of TopSpawns at the number 17, by the kernel.
-/
import Derived.Test.YtaebgjlinhmajaaGreatHookC
import Derived.KernelRfl
namespace Go.Eng
open Go.Proofs
theorem spawns17 : okRes (tailRun Tryz.f4 200 (17 : Nat)) = true := by kernel_rfl
end Go.Eng
