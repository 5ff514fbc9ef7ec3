/-
  The law MarkLogs tells true at every input, and its input reads as it did.
  Conditions: none.
-/
import Derived.Test.YtcfefgeheibadaaRows
import Derived.Test.YtcfefgeheibadaaMarkL
import Derived.Test.YtcfefgeheibadaaAbsR2
import Derived.ProofKit
namespace Go.Proofs.Ytcfefgeheibadaa
open Go.ChangeShapes Go.WideShapes Go.ChangeAt Go.RowKit Go.Abs

theorem markLogs_own : ownKnob Try.prog.godebug = none := by kernel_rfl
theorem markLogs_laidOut : laidOutB Try.prog = true := by kernel_rfl

set_option maxRecDepth 100000 in
theorem markLogs_lifted (os : Os) (started : os.Started) (H : Type) (enc : TypeId × Value → H) :
    ReturnsInHanded {} Try.checked os 3 .any (Rows.markLogsSpec.pre6 enc Try.prog Try.f3 Rows.markLogsRow.domain false) (Rows.markLogsSpec.post enc Try.prog Try.f3 false true false false) := by
  refine returnsInHanded_of_change (C := Try.checked) markLogs_own started (by kernel_rfl) Try.func3
    (ChangeSpec.witness6 (enc := enc) (C := Try.checked) false ⟨#[], #[.int .i64 0, .slice none 0 0, .int .i64 0], []⟩ 8 (by kernel_rfl) (by kernel_rfl) (by kernel_rfl) (by kernel_rfl)) ?_
  intro W base args ds gs before hval hW _ _
  exact law_contract (P := Try.prog) (T := tab) (pure := pureF) tab_ok markLogs_laidOut (f := 3) (fn := Try.f3) (s := Rows.markLogsSpec) (tys := [.int .i64, .sl tyItem, .int .i64]) (by kernel_rfl) (by kernel_rfl) (by kernel_rfl) rfl
    (fun ds h => match ds, h with | [a0, a1, a2], _ => rfl) (fun _ h => markLogs h) W base args ds gs before hval hW

theorem markLogs_holds : Rows.MarkLogsSaid :=
  OpenClaim.holds_of_wide 3 Try.f3 rfl rfl rfl rfl rfl rfl rfl ⟨rfl, rfl, rfl, rfl, rfl⟩ rfl rfl rfl rfl rfl (by kernel_rfl) Try.func3 (by kernel_rfl)
    (of_decide_eq_true (by kernel_rfl)) (by unfold Func.isWrapper; first | (rw [if_pos (by decide +kernel)]; kernel_rfl) | (rw [if_neg (by decide +kernel)]; exact ⟨rfl, rfl⟩))
    (fun os started H enc _ => markLogs_lifted os started H enc)

#print axioms markLogs_holds
end Go.Proofs.Ytcfefgeheibadaa
