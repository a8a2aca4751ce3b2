/-
  The run of TopSpawns at the number 6, by the kernel.
-/
import Derived.Test.YtaebgjlinhmajaaGreatHookC
import Derived.KernelRfl
namespace Go.Eng
open Go.Proofs
theorem spawns6 : okRes (tailRun Tryz.f4 200 (6 : Nat)) = true := by kernel_rfl
end Go.Eng
