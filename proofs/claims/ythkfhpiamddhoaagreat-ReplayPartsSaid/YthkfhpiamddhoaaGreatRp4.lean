/- ReplayParts answers true, for every input: of whatever two events the field in which they part is the document's; an event parts nowhere from itself; what came in reads as it did. No condition. -/
import Derived.Test.YthkfhpiamddhoaaGreatRp2
import Derived.Test.YthkfhpiamddhoaaGreatRp3
set_option autoImplicit false
set_option maxRecDepth 100000
namespace Go.Proofs.YthkfhpiamddhoaaGreat
theorem f_named : Tryz.prog.funcNamed Rows.replayPartsRow.func = some 3 := by kernel_rfl
theorem f_inst : Tryz.f3.isInstance Tryz.prog Rows.replayPartsRow.origin Rows.replayPartsRow.targs := of_decide_eq_true (by kernel_rfl)
theorem f_wrap : Tryz.f3.isWrapper Tryz.prog Rows.replayPartsRow.wrapper Rows.replayPartsRow.mainSum := by unfold Func.isWrapper; first | (rw [if_pos (by decide +kernel)]; kernel_rfl) | (rw [if_neg (by decide +kernel)]; exact ⟨rfl, rfl⟩)
theorem parts_holds : Rows.ReplayPartsSaid :=
  OpenClaim.holds_of_wide 3 Tryz.f3 rfl rfl rfl rfl rfl rfl rfl ⟨rfl, rfl, rfl, rfl, rfl⟩ rfl rfl rfl rfl rfl f_named Tryz.func3 f_closed f_inst f_wrap
    (fun os started H enc _ => lifted os started H enc)
#print axioms parts_holds
end Go.Proofs.YthkfhpiamddhoaaGreat
