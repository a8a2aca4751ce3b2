/-
  The run of TopSpawns at the number 11, by the kernel.
-/
import Derived.Test.YtaebgjlinhmajaaGreatHookC
import Derived.KernelRfl
namespace Go.Eng
open Go.Proofs
theorem spawns11 : okRes (tailRun Tryz.f4 200 (11 : Nat)) = true := by kernel_rfl
end Go.Eng
