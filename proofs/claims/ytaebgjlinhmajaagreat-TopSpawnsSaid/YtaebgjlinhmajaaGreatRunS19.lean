/-
  The run of TopSpawns at the number 19, by the kernel.
-/
import Derived.Test.YtaebgjlinhmajaaGreatHookC
import Derived.KernelRfl
namespace Go.Eng
open Go.Proofs
theorem spawns19 : okRes (tailRun Tryz.f4 200 (19 : Nat)) = true := by kernel_rfl
end Go.Eng
