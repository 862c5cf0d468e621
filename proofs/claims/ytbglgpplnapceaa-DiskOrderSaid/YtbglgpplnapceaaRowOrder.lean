/- The given statement of DiskOrder, from the walk. -/
import Derived.Test.YtbglgpplnapceaaRows
import Derived.Test.YtbglgpplnapceaaA4
set_option linter.unusedVariables false
namespace Go.Proofs.Ytbglgpplnapceaa.diskOrder
open Go.ChangeShapes Go.WideShapes Go.ChangeAt Go.RowKit Go.Am Go.Proofs.Dev
theorem own : ownKnob Try.prog.godebug = none := by kernel_rfl
theorem laidOut : laidOutB Try.prog = true := by kernel_rfl
theorem args (dss : List (List Dat)) (h : DTys tbl [22, 3, 3] dss) : ACall Try.prog 3 (argsA tbl [22, 3, 3] dss) [] fun r _ => r = .d (.v (.bool true)) := by
  rcases dss with _ | ⟨d0, _ | ⟨d1, _ | ⟨d2, _ | ⟨d3, dss⟩⟩⟩⟩ <;> simp [DTys] at h
  obtain ⟨⟨n0, h0⟩, ⟨n1, h1⟩, n2, h2⟩ := h
  obtain ⟨l, rfl⟩ := dty_acts h0
  obtain ⟨y, rfl, hy⟩ := dty_i64 h1
  obtain ⟨x, rfl, hx⟩ := dty_i64 h2
  exact order_law l y x hy
set_option maxRecDepth 100000 in
theorem lifted (os : Os) (started : os.Started) (H : Type) (enc : TypeId × Value → H) :
    ReturnsInHanded {} Try.checked os 3 .any (Rows.diskOrderSpec.pre6 enc Try.prog Try.f3 Rows.diskOrderRow.domain false) (Rows.diskOrderSpec.post enc Try.prog Try.f3 false true false false) := by
  refine returnsInHanded_of_change (C := Try.checked) own started (by kernel_rfl) Try.func3
    (ChangeSpec.witness6 (enc := enc) (C := Try.checked) false ⟨#[], #[.slice none 0 0, .int .i64 0, .int .i64 0], []⟩ 8 (by kernel_rfl) (by kernel_rfl) (by kernel_rfl) (by kernel_rfl)) ?_
  intro W base args' ds gs before hval hW _ _
  refine law_contract (ts := [3, 5, 9, 22, 30, 32]) tblOk laidOut (by kernel_rfl) (params := [22, 3, 3]) rfl (by kernel_rfl) (by kernel_rfl) (rt := 4) rfl Try.underlying4 rfl ?_ args W base args' ds gs before hval hW
  intro ds hl
  rcases ds with _ | ⟨d0, _ | ⟨d1, _ | ⟨d2, _ | ⟨e, ds⟩⟩⟩⟩ <;> simp at hl
  rfl
theorem over : Rows.diskOrderRow.holds Try.pinned (OpenSpec.ofChange Rows.diskOrderSpec) :=
  OpenClaim.holds_of_wide 3 Try.f3 rfl rfl rfl rfl rfl rfl rfl ⟨rfl, rfl, rfl, rfl, rfl⟩ rfl rfl rfl rfl rfl (by kernel_rfl) Try.func3 (by kernel_rfl)
    (of_decide_eq_true (by kernel_rfl)) (by unfold Func.isWrapper; first | (rw [if_pos (by decide +kernel)]; kernel_rfl) | (rw [if_neg (by decide +kernel)]; exact ⟨rfl, rfl⟩))
    (fun os started H enc _ => lifted os started H enc)
end Go.Proofs.Ytbglgpplnapceaa.diskOrder
namespace Go.Proofs.Ytbglgpplnapceaa
/-- The row. -/
theorem diskOrder_holds : Rows.DiskOrderSaid := diskOrder.over
#print axioms diskOrder_holds
end Go.Proofs.Ytbglgpplnapceaa
