/-
  The run of TopSpawns at the number 4, by the kernel.
-/
import Derived.Test.YtaebgjlinhmajaaGreatHookC
import Derived.KernelRfl
namespace Go.Eng
open Go.Proofs
theorem spawns4 : okRes (tailRun Tryz.f4 200 (4 : Nat)) = true := by kernel_rfl
end Go.Eng
