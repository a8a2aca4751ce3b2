/-
  The run of TopSpawns at the number 7, by the kernel.
-/
import Derived.Test.YtaebgjlinhmajaaGreatHookC
import Derived.KernelRfl
namespace Go.Eng
open Go.Proofs
theorem spawns7 : okRes (tailRun Tryz.f4 200 (7 : Nat)) = true := by kernel_rfl
end Go.Eng
