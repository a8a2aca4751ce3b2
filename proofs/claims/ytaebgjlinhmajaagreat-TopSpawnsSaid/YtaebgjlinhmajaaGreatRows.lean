/-
  NARROWER THAN 'FOR EVERY INPUT', by the rows' own cells (each row's printed sentence says how): AgreeTills: loops.
  DERIVED. THE GIVEN ROWS OF THIS SEAT. 3 by the template 'for every input the law returns true; each argument reads behind the call as it read before'; 0 by the template 'total and deterministic' (their statements: YtaebgjlinhmajaaGreatTotals.lean).
  GIVEN WITH THE SEED: the statements are not yours to turn. If you find one false, say at which input.
  Laid BY PROGRAM, IN A SANDBOX (cutbox-rows.mjs): the forced cells as the released guide's own fill.sh prints them over the translation 08df636347dfec29… (all of the seat's roots in one cut). By AI agents, Wed Nov 11 2026. No macro, syntax, notation, axiom, sorry.
-/
import Derived.Test.YtaebgjlinhmajaaGreatChecked
import GoSem.Claim
import GoSem.ClaimJoined
import GoSem.ClaimMapViews
import Derived.JoinedTies
import Derived.KernelRfl
namespace Go.Proofs.YtaebgjlinhmajaaGreat
/- THE CELL 'sum', in the pinned program and in every row, IS THE sha256 OF THE DUMP (.gsa) THAT YtaebgjlinhmajaaGreatProg.lean LOADS. Nothing in Lean hashes anything: it is a label: what it is worth is what the hold of that sum in a sandbox is worth. -/
noncomputable def Tryz.pinned : Pinned := { name := "ytaebgjlinhmajaagreat", sum := "08df636347dfec29a432ad8fa284ee6b60d748be4dfd6ab5482df8186f6c74cf", checked := Tryz.checked }
namespace Rows
def none {H : Type} : Left H := { results := [], args := [] }

/-- 'beehivelaw24.AgreeTills': WHATEVER THE INPUT: true; the input reads as it did. -/
def agreeTillsSpec : ChangeSpec := { name := "agreeTills", fn := fun _ => fun
  | [d1, d2, d3] => { results := [.lit (.bool true)], args := [d1, d2, d3] }
  | _ => none }
def agreeTillsRow : OpenClaim := { program := "ytaebgjlinhmajaagreat", sum := "08df636347dfec29a432ad8fa284ee6b60d748be4dfd6ab5482df8186f6c74cf", func := "beehive/beehivelaw24.AgreeTills", spec := "agreeTills", inPlace := ["math.Float64frombits", "math.Float64bits", "math.archTrunc", "internal/bytealg.abigen_runtime_cmpstring"], unfollowed := true, recurses := true, loops := true, plainKeys := false, apart := false }
def AgreeTillsSaid : Prop := agreeTillsRow.holds Tryz.pinned (OpenSpec.ofChange agreeTillsSpec)

/-- ITS FALSE NEIGHBOUR: 'it returns false'. Refute it at one input. -/
def agreeTillsWrong : ChangeSpec := { name := "agreeTills", fn := fun _ => fun
  | [d1, d2, d3] => { results := [.lit (.bool false)], args := [d1, d2, d3] }
  | _ => none }
def AgreeTillsWrongFalsely : Prop := agreeTillsRow.holds Tryz.pinned (OpenSpec.ofChange agreeTillsWrong)

/-- 'beehivetop.TopSpawns': WHATEVER THE INPUT: true; the input reads as it did. -/
def topSpawnsSpec : ChangeSpec := { name := "topSpawns", fn := fun _ => fun
  | [d] => { results := [.lit (.bool true)], args := [d] }
  | _ => none }
def topSpawnsRow : OpenClaim := { program := "ytaebgjlinhmajaagreat", sum := "08df636347dfec29a432ad8fa284ee6b60d748be4dfd6ab5482df8186f6c74cf", func := "beehive/beehivetop.TopSpawns", spec := "topSpawns", inPlace := ["math.Float64frombits", "math.Float64bits", "math.archTrunc", "internal/bytealg.abigen_runtime_cmpstring"], unfollowed := true, recurses := true, plainKeys := false, apart := false }
def TopSpawnsSaid : Prop := topSpawnsRow.holds Tryz.pinned (OpenSpec.ofChange topSpawnsSpec)

/-- ITS FALSE NEIGHBOUR: 'it returns false'. Refute it at one input. -/
def topSpawnsWrong : ChangeSpec := { name := "topSpawns", fn := fun _ => fun
  | [d] => { results := [.lit (.bool false)], args := [d] }
  | _ => none }
def TopSpawnsWrongFalsely : Prop := topSpawnsRow.holds Tryz.pinned (OpenSpec.ofChange topSpawnsWrong)

/-- 'beehivetop.TopMails': WHATEVER THE INPUT: true; the input reads as it did. -/
def topMailsSpec : ChangeSpec := { name := "topMails", fn := fun _ => fun
  | [d] => { results := [.lit (.bool true)], args := [d] }
  | _ => none }
def topMailsRow : OpenClaim := { program := "ytaebgjlinhmajaagreat", sum := "08df636347dfec29a432ad8fa284ee6b60d748be4dfd6ab5482df8186f6c74cf", func := "beehive/beehivetop.TopMails", spec := "topMails", inPlace := ["math.Float64frombits", "math.Float64bits", "math.archTrunc", "internal/bytealg.abigen_runtime_cmpstring"], unfollowed := true, recurses := true, plainKeys := false, apart := false }
def TopMailsSaid : Prop := topMailsRow.holds Tryz.pinned (OpenSpec.ofChange topMailsSpec)

/-- ITS FALSE NEIGHBOUR: 'it returns false'. Refute it at one input. -/
def topMailsWrong : ChangeSpec := { name := "topMails", fn := fun _ => fun
  | [d] => { results := [.lit (.bool false)], args := [d] }
  | _ => none }
def TopMailsWrongFalsely : Prop := topMailsRow.holds Tryz.pinned (OpenSpec.ofChange topMailsWrong)

/- THE SECOND FORM. 'bulk': how many values and letters a reading holds, each counted each time it is reached (what is shared counts as often as it is met; a slice's spare places count too). A statement '..UptoSaid' is the law's where the arguments, and the package variables that the reading takes, are together of bulk at most 1048576: NARROWER than '..Said'. Prove '..Said' where nothing that the law and all that it calls make is longer than what came in: it says more and counts as full. Else prove '..UptoSaid'. A law counts once. -/
mutual
def uptoBulk {H : Type} : DataW H → Nat
  | .lit (.string bytes) => bytes.length + 1
  | .lit _ => 1
  | .nil => 1
  | .ptr d => uptoBulk d + 1
  | .slice elems spare => uptoBulkAll elems + uptoBulkAll spare + 1
  | .agg parts => uptoBulkAll parts + 1
  | .iface _ d => uptoBulk d + 1
  | .map entries => uptoBulkEntries entries + 1
  | .held _ => 1
def uptoBulkAll {H : Type} : List (DataW H) → Nat
  | [] => 0
  | d :: r => uptoBulk d + uptoBulkAll r
def uptoBulkEntries {H : Type} : List (Lit × DataW H) → Nat
  | [] => 0
  | x :: r => uptoBulkEntry x + uptoBulkEntries r
def uptoBulkEntry {H : Type} : Lit × DataW H → Nat
  | (.string bytes, d) => bytes.length + uptoBulk d + 1
  | (_, d) => uptoBulk d + 1
 end
def uptoSmall : (H : Type) → List (DataW H) → Bool := fun _ ds => decide (uptoBulkAll ds ≤ 1048576)
def OpenSpec.upto (s : _root_.Go.ChangeSpec) : _root_.Go.OpenSpec := { _root_.Go.OpenSpec.ofChange s with cond := some uptoSmall }

/-- 'beehivelaw24.AgreeTills', WHERE WHAT IT READS IS OF BULK AT MOST 1048576: true; the input reads as it did. -/
def agreeTillsUptoRow : OpenClaim := { program := "ytaebgjlinhmajaagreat", sum := "08df636347dfec29a432ad8fa284ee6b60d748be4dfd6ab5482df8186f6c74cf", func := "beehive/beehivelaw24.AgreeTills", spec := "agreeTills", inPlace := ["math.Float64frombits", "math.Float64bits", "math.archTrunc", "internal/bytealg.abigen_runtime_cmpstring"], unfollowed := true, recurses := true, loops := true, plainKeys := false, apart := false, narrowed := true }
def AgreeTillsUptoSaid : Prop := agreeTillsUptoRow.holds Tryz.pinned (OpenSpec.upto agreeTillsSpec)

/-- 'beehivetop.TopSpawns', WHERE WHAT IT READS IS OF BULK AT MOST 1048576: true; the input reads as it did. -/
def topSpawnsUptoRow : OpenClaim := { program := "ytaebgjlinhmajaagreat", sum := "08df636347dfec29a432ad8fa284ee6b60d748be4dfd6ab5482df8186f6c74cf", func := "beehive/beehivetop.TopSpawns", spec := "topSpawns", inPlace := ["math.Float64frombits", "math.Float64bits", "math.archTrunc", "internal/bytealg.abigen_runtime_cmpstring"], unfollowed := true, recurses := true, plainKeys := false, apart := false, narrowed := true }
def TopSpawnsUptoSaid : Prop := topSpawnsUptoRow.holds Tryz.pinned (OpenSpec.upto topSpawnsSpec)

/-- 'beehivetop.TopMails', WHERE WHAT IT READS IS OF BULK AT MOST 1048576: true; the input reads as it did. -/
def topMailsUptoRow : OpenClaim := { program := "ytaebgjlinhmajaagreat", sum := "08df636347dfec29a432ad8fa284ee6b60d748be4dfd6ab5482df8186f6c74cf", func := "beehive/beehivetop.TopMails", spec := "topMails", inPlace := ["math.Float64frombits", "math.Float64bits", "math.archTrunc", "internal/bytealg.abigen_runtime_cmpstring"], unfollowed := true, recurses := true, plainKeys := false, apart := false, narrowed := true }
def TopMailsUptoSaid : Prop := topMailsUptoRow.holds Tryz.pinned (OpenSpec.upto topMailsSpec)

end Rows
end Go.Proofs.YtaebgjlinhmajaaGreat
