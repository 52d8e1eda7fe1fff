import Derived.Test.YtohbipkmfhmibaaGreatDoorCards
import Derived.Test.YtohbipkmfhmibaaGreatDoorTie
import Derived.JoinedCond
import Derived.Deep.DeepHandedRow
import Derived.KernelRfl
import Derived.MakeChecks
set_option linter.unusedVariables false
namespace Go.AE.W
open Go.Proofs Go.Proofs.YtohbipkmfhmibaaGreatDoor
theorem jf1 : (Rows.watchKeepsRow.inPlace == Tryz.prog.inPlace 3) = true := by kernel_rfl
theorem jf2 : (Rows.watchKeepsRow.unfollowed == Tryz.prog.unfollowed 3) = true := by kernel_rfl
theorem jf3 : (Rows.watchKeepsRow.recurses == Tryz.prog.recurses 3) = true := by kernel_rfl
theorem jf4 : (Rows.watchKeepsRow.named == Tryz.prog.varsNamed 3) = true := by kernel_rfl
theorem jf5 : laidOutB Tryz.prog = true := by kernel_rfl
theorem jf6 : mapsRowed Tryz.prog = true := by kernel_rfl
theorem joined : joinedFacts Tryz.prog 3 Tryz.f3 (OpenSpec.ofChange Rows.watchKeepsSpec).bare Rows.watchKeepsRow = true := by
  unfold joinedFacts
  rw [jf1, jf2, jf3, jf4, jf5, jf6]
  kernel_rfl
end Go.AE.W
