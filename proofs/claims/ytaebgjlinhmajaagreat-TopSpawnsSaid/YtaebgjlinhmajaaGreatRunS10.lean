/-
  The run of TopSpawns at the number 10, by the kernel.
-/
import Derived.Test.YtaebgjlinhmajaaGreatHookC
import Derived.KernelRfl
namespace Go.Eng
open Go.Proofs
theorem spawns10 : okRes (tailRun Tryz.f4 200 (10 : Nat)) = true := by kernel_rfl
end Go.Eng
