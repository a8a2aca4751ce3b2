/-
  The run of TopSpawns at the number 14, by the kernel.
-/
import Derived.Test.YtaebgjlinhmajaaGreatHookC
import Derived.KernelRfl
namespace Go.Eng
open Go.Proofs
theorem spawns14 : okRes (tailRun Tryz.f4 200 (14 : Nat)) = true := by kernel_rfl
end Go.Eng
