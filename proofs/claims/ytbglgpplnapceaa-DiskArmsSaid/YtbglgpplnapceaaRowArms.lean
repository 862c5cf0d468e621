/- The given statement of DiskArms, from the walk. -/
import Derived.Test.YtbglgpplnapceaaRows
import Derived.Test.YtbglgpplnapceaaA4
set_option linter.unusedVariables false
namespace Go.Proofs.Ytbglgpplnapceaa.diskArms
open Go.ChangeShapes Go.WideShapes Go.ChangeAt Go.RowKit Go.Am Go.Proofs.Dev
theorem own : ownKnob Try.prog.godebug = none := by kernel_rfl
theorem laidOut : laidOutB Try.prog = true := by kernel_rfl
theorem args (dss : List (List Dat)) (h : DTys tbl [5, 22, 5] dss) : ACall Try.prog 5 (argsA tbl [5, 22, 5] dss) [] fun r _ => r = .d (.v (.bool true)) := by
  rcases dss with _ | ⟨d0, _ | ⟨d1, _ | ⟨d2, _ | ⟨d3, dss⟩⟩⟩⟩ <;> simp [DTys] at h
  obtain ⟨⟨n0, h0⟩, ⟨n1, h1⟩, n2, h2⟩ := h
  obtain ⟨y, rfl, hy⟩ := dty_u8 h0
  obtain ⟨l, rfl⟩ := dty_acts h1
  obtain ⟨x, rfl, hx⟩ := dty_u8 h2
  exact arms_law l y x hy hx
set_option maxRecDepth 100000 in
theorem lifted (os : Os) (started : os.Started) (H : Type) (enc : TypeId × Value → H) :
    ReturnsInHanded {} Try.checked os 5 .any (Rows.diskArmsSpec.pre6 enc Try.prog Try.f5 Rows.diskArmsRow.domain false) (Rows.diskArmsSpec.post enc Try.prog Try.f5 false true false false) := by
  refine returnsInHanded_of_change (C := Try.checked) own started (by kernel_rfl) Try.func5
    (ChangeSpec.witness6 (enc := enc) (C := Try.checked) false ⟨#[], #[.int .u8 0, .slice none 0 0, .int .u8 0], []⟩ 8 (by kernel_rfl) (by kernel_rfl) (by kernel_rfl) (by kernel_rfl)) ?_
  intro W base args' ds gs before hval hW _ _
  refine law_contract (ts := [3, 5, 9, 22, 30, 32]) tblOk laidOut (by kernel_rfl) (params := [5, 22, 5]) rfl (by kernel_rfl) (by kernel_rfl) (rt := 4) rfl Try.underlying4 rfl ?_ args W base args' ds gs before hval hW
  intro ds hl
  rcases ds with _ | ⟨d0, _ | ⟨d1, _ | ⟨d2, _ | ⟨e, ds⟩⟩⟩⟩ <;> simp at hl
  rfl
theorem over : Rows.diskArmsRow.holds Try.pinned (OpenSpec.ofChange Rows.diskArmsSpec) :=
  OpenClaim.holds_of_wide 5 Try.f5 rfl rfl rfl rfl rfl rfl rfl ⟨rfl, rfl, rfl, rfl, rfl⟩ rfl rfl rfl rfl rfl (by kernel_rfl) Try.func5 (by kernel_rfl)
    (of_decide_eq_true (by kernel_rfl)) (by unfold Func.isWrapper; first | (rw [if_pos (by decide +kernel)]; kernel_rfl) | (rw [if_neg (by decide +kernel)]; exact ⟨rfl, rfl⟩))
    (fun os started H enc _ => lifted os started H enc)
end Go.Proofs.Ytbglgpplnapceaa.diskArms
namespace Go.Proofs.Ytbglgpplnapceaa
/-- The row. -/
theorem diskArms_holds : Rows.DiskArmsSaid := diskArms.over
#print axioms diskArms_holds
end Go.Proofs.Ytbglgpplnapceaa
