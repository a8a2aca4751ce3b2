/-
  The run of TopSpawns at the number 2, by the kernel.
-/
import Derived.Test.YtaebgjlinhmajaaGreatHookC
import Derived.KernelRfl
namespace Go.Eng
open Go.Proofs
theorem spawns2 : okRes (tailRun Tryz.f4 200 (2 : Nat)) = true := by kernel_rfl
end Go.Eng
