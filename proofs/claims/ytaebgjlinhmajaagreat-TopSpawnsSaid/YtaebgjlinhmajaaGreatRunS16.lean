/-
  The run of TopSpawns at the number 16, by the kernel.
-/
import Derived.Test.YtaebgjlinhmajaaGreatHookC
import Derived.KernelRfl
namespace Go.Eng
open Go.Proofs
theorem spawns16 : okRes (tailRun Tryz.f4 200 (16 : Nat)) = true := by kernel_rfl
end Go.Eng
