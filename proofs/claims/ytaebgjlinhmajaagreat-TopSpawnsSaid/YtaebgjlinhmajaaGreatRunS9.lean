/-
  The run of TopSpawns at the number 9, by the kernel.
-/
import Derived.Test.YtaebgjlinhmajaaGreatHookC
import Derived.KernelRfl
namespace Go.Eng
open Go.Proofs
theorem spawns9 : okRes (tailRun Tryz.f4 200 (9 : Nat)) = true := by kernel_rfl
end Go.Eng
