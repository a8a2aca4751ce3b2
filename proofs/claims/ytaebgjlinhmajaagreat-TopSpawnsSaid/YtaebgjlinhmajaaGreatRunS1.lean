/-
  The run of TopSpawns at the number 1, by the kernel.
-/
import Derived.Test.YtaebgjlinhmajaaGreatHookC
import Derived.KernelRfl
namespace Go.Eng
open Go.Proofs
theorem spawns1 : okRes (tailRun Tryz.f4 200 (1 : Nat)) = true := by kernel_rfl
end Go.Eng
