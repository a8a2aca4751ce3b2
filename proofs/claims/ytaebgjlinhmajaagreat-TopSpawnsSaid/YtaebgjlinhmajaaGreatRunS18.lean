/-
  The run of TopSpawns at the number 18, by the kernel.
-/
import Derived.Test.YtaebgjlinhmajaaGreatHookC
import Derived.KernelRfl
namespace Go.Eng
open Go.Proofs
theorem spawns18 : okRes (tailRun Tryz.f4 200 (18 : Nat)) = true := by kernel_rfl
end Go.Eng
