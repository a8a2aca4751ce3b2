/-
  The run of TopSpawns at the number 0, by the kernel.
-/
import Derived.Test.YtaebgjlinhmajaaGreatHookC
import Derived.KernelRfl
namespace Go.Eng
open Go.Proofs
theorem spawns0 : okRes (tailRun Tryz.f4 200 (0 : Nat)) = true := by kernel_rfl
end Go.Eng
