/-
  The closed facts of the row topSpawnsRow, one by one, by the kernel.
-/
import Derived.Test.YtaebgjlinhmajaaGreatRows
import Derived.WalkKit
import Derived.ProofKit
import Derived.OpenShut
namespace Go.Proofs.YtaebgjlinhmajaaGreat.topSpawns
open Go.ChangeShapes Go.WideShapes Go.ChangeAt Go.RowKit
theorem fact0 : (Rows.topSpawnsRow.wf (OpenSpec.ofChange Rows.topSpawnsSpec)) = true := by kernel_rfl
theorem fact1 : (laidOutB Tryz.prog) = true := by kernel_rfl
theorem fact2 : (mapsRowed Tryz.prog) = true := by kernel_rfl
theorem fact3 : (Tryz.f4.params.all (Tryz.prog.readableRec ·)) = true := by kernel_rfl
theorem fact4 : (namedTie Tryz.prog Rows.topSpawnsRow.named Rows.topSpawnsSpec.vars) = true := by kernel_rfl
theorem fact5 : ((Rows.topSpawnsRow.stops == [])) = true := by kernel_rfl
theorem fact6 : ((Tryz.prog.stops == [])) = true := by kernel_rfl
theorem fact7 : ((Rows.topSpawnsRow.knobs == [])) = true := by kernel_rfl
theorem fact8 : ((Tryz.prog.stopKnobs == [])) = true := by kernel_rfl
theorem fact9 : ((Rows.topSpawnsRow.inPlace == Tryz.prog.inPlace 4)) = true := by kernel_rfl
theorem fact10 : ((Rows.topSpawnsRow.unfollowed == Tryz.prog.unfollowed 4)) = true := by kernel_rfl
theorem fact11 : ((Rows.topSpawnsRow.recurses == Tryz.prog.recurses 4)) = true := by kernel_rfl
theorem fact12 : ((Rows.topSpawnsRow.named == Tryz.prog.varsNamed 4)) = true := by kernel_rfl
theorem fact13 : ((Rows.topSpawnsRow.maps == (Tryz.f4.params.toList ++ Rows.topSpawnsSpec.plain.varTypes Tryz.prog).any (Tryz.prog.mapsRec ·))) = true := by kernel_rfl
theorem fact14 : ((Rows.topSpawnsRow.ifaces == (Tryz.f4.params.toList ++ Rows.topSpawnsSpec.plain.varTypes Tryz.prog).any (Tryz.prog.ifacesRec ·))) = true := by kernel_rfl
theorem fact15 : ((Rows.topSpawnsRow.mapsOut == Tryz.prog.mapsAmong Tryz.f4.resultTypes.toList)) = true := by kernel_rfl
theorem fact16 : ((Rows.topSpawnsRow.loops == (Tryz.f4.params.toList ++ Rows.topSpawnsSpec.plain.varTypes Tryz.prog).any (Tryz.prog.loopsFrom ·))) = true := by kernel_rfl
theorem fact17 : ((Rows.topSpawnsRow.wideKeys == (Tryz.f4.params.toList ++ Rows.topSpawnsSpec.plain.varTypes Tryz.prog ++ Tryz.f4.resultTypes.toList).any (Tryz.prog.wideKeysFrom ·))) = true := by kernel_rfl
theorem fact18 : (Rows.topSpawnsSpec.vars.all (Tryz.prog.varReadable ·)) = true := by kernel_rfl
theorem fact19 : (Tryz.f4.resultTypes.all (fun t => Tryz.prog.readableRec t && decide (t < Tryz.prog.types.size))) = true := by kernel_rfl
theorem fact20 : ((Rows.topSpawnsRow.ifacesOut == Tryz.f4.resultTypes.toList.any (Tryz.prog.ifacesRec ·))) = true := by kernel_rfl
theorem fact21 : ((Rows.topSpawnsRow.loopsOut == Tryz.f4.resultTypes.toList.any (Tryz.prog.loopsFrom ·))) = true := by kernel_rfl
theorem fact22 : ((Rows.topSpawnsRow.plainKeys == Tryz.prog.plainKeys)) = true := by kernel_rfl
theorem fact23 : (Rows.topSpawnsRow.shortTexts.isNone) = true := by kernel_rfl
theorem fact24 : (Tryz.prog.stopsHeard) = true := by kernel_rfl
theorem fact25 : (Tryz.prog.mayEnter) = true := by kernel_rfl
theorem fact26 : ((Rows.topSpawnsRow.lifted == Tryz.prog.liftsFinal)) = true := by kernel_rfl
theorem fact27 : ((Tryz.prog.make == some Rows.topSpawnsRow.make)) = true := by kernel_rfl
theorem fact29 : ((Rows.topSpawnsRow.pinned == Rows.topSpawnsRow.pinnedBy)) = true := by kernel_rfl
theorem fact30 : ((Rows.topSpawnsRow.veiled == (Tryz.f4.params.toList ++ Rows.topSpawnsSpec.plain.varTypes Tryz.prog ++ Tryz.f4.resultTypes.toList).any (Tryz.prog.veiledRec ·))) = true := by kernel_rfl
theorem fact31 : (Rows.topSpawnsRow.veiledFits Tryz.prog Tryz.f4.params.toList (Tryz.f4.params.toList ++ Rows.topSpawnsSpec.plain.varTypes Tryz.prog ++ Tryz.f4.resultTypes.toList)) = true := by kernel_rfl
theorem facts : joinedFacts Tryz.prog 4 Tryz.f4 Rows.topSpawnsSpec Rows.topSpawnsRow = true := by
  unfold joinedFacts
  rw [fact0, fact1, fact2, fact3, fact4, fact5, fact6, fact7, fact8, fact9, fact10, fact11, fact12, fact13, fact14, fact15, fact16, fact17, fact18, fact19, fact20, fact21, fact22, fact23, fact24, fact25, fact26, fact27, fact29, fact30, fact31]
  kernel_rfl
end Go.Proofs.YtaebgjlinhmajaaGreat.topSpawns
