/-
  The run of TopSpawns at the number 13, by the kernel.
-/
import Derived.Test.YtaebgjlinhmajaaGreatHookC
import Derived.KernelRfl
namespace Go.Eng
open Go.Proofs
theorem spawns13 : okRes (tailRun Tryz.f4 200 (13 : Nat)) = true := by kernel_rfl
end Go.Eng
