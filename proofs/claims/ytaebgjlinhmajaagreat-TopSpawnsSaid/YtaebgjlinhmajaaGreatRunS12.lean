/-
  The run of TopSpawns at the number 12, by the kernel.
-/
import Derived.Test.YtaebgjlinhmajaaGreatHookC
import Derived.KernelRfl
namespace Go.Eng
open Go.Proofs
theorem spawns12 : okRes (tailRun Tryz.f4 200 (12 : Nat)) = true := by kernel_rfl
end Go.Eng
