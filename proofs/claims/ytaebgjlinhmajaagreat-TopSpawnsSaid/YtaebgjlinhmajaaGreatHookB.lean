/-
  awake of beehivetop returns true, at any world.
-/
import Derived.Test.YtaebgjlinhmajaaGreatHookA
namespace Go.Eng
open Go.Proofs
noncomputable section
def okRes (r : CR) : Bool := match r with
  | .ret (.bool true) _ => true
  | _ => false
theorem okRes_spec {r : CR} (h : okRes r = true) : ∃ h', r = .ret (.bool true) h' := by
  unfold okRes at h
  split at h
  · exact ⟨_, rfl⟩
  · cases h
theorem awake_run : okRes (callF Tryz.prog 200 hookA 2000 24 [] h00) = true := by kernel_rfl
theorem Tryz.awake (W : World) : Calls Tryz.prog 24 #[] W fun e W' => Grown W W' ∧ e = .returned (.bool true) := by
  obtain ⟨h', hr⟩ := okRes_spec awake_run
  exact (run_ret hookA_ok hr trivial W).mono fun e W' ⟨g, θ', he⟩ => ⟨g, he⟩
def hookAwake (args : List AV) (h : AHeap) : CR := match args with
  | [] => .ret (.bool true) h
  | _ => .fail
theorem hookAwake_ok (args : List AV) (h : AHeap) (θ : Env) (W : World) (hr : HR θ h W) (_ha : AV.oks θ h.D args) : CallRes Tryz.prog 24 args θ h W (hookAwake args h) := by
  unfold hookAwake
  split
  · exact hook_run hr trivial (fun _ => rfl) ((Tryz.awake W).mono fun e W' ⟨g, he⟩ => ⟨g, θ, he⟩)
  · trivial
def hookT : Nat → Option HookT := orHook 24 hookAwake hookA
theorem hookT_ok : HookOK hookT := orHook_ok hookA_ok hookAwake_ok
end
end Go.Eng
