/-
  The law StoreForks tells true at every input, and its input reads as it did.
  Conditions: none.
-/
import Derived.Test.YtcfefgeheibadaaRows
import Derived.Test.YtcfefgeheibadaaStForks
import Derived.Test.YtcfefgeheibadaaAbsR2
import Derived.ProofKit
namespace Go.Proofs.Ytcfefgeheibadaa
open Go.ChangeShapes Go.WideShapes Go.ChangeAt Go.RowKit Go.Abs

theorem storeForks_own : ownKnob Try.prog.godebug = none := by kernel_rfl
theorem storeForks_laidOut : laidOutB Try.prog = true := by kernel_rfl

set_option maxRecDepth 100000 in
theorem storeForks_lifted (os : Os) (started : os.Started) (H : Type) (enc : TypeId × Value → H) :
    ReturnsInHanded {} Try.checked os 10 .any (Rows.storeForksSpec.pre6 enc Try.prog Try.f10 Rows.storeForksRow.domain false) (Rows.storeForksSpec.post enc Try.prog Try.f10 false true false false) := by
  refine returnsInHanded_of_change_shaped (C := Try.checked) storeForks_own started (by kernel_rfl) Try.func10
    (ChangeSpec.witness6 (enc := enc) (C := Try.checked) false ⟨#[], #[.int .u8 0, .slice none 0 0, .slice none 0 0, .slice none 0 0], []⟩ 8 (by kernel_rfl) (by kernel_rfl) (by kernel_rfl) (by kernel_rfl)) ?_
  intro W base args ds gs before hval hW _ hwt _ _
  exact law_contract (P := Try.prog) (T := tab) (pure := pureF) tab_ok storeForks_laidOut (f := 10) (fn := Try.f10) (s := Rows.storeForksSpec) (tys := [.int .u8, .sl tyDeed, .sl tyDeed, .sl tyDeed]) (by kernel_rfl) (by kernel_rfl) (by kernel_rfl) rfl
    (fun ds h => match ds, h with | [a0, a1, a2, a3], _ => rfl) (fun _ h => storeForks h) W base args ds gs before hval hW hwt

theorem storeForks_holds : Rows.StoreForksSaid :=
  OpenClaim.holds_of_wide 10 Try.f10 rfl rfl rfl rfl rfl rfl rfl ⟨rfl, rfl, rfl, rfl, rfl⟩ rfl rfl rfl rfl rfl (by kernel_rfl) Try.func10 (by kernel_rfl)
    (of_decide_eq_true (by kernel_rfl)) (by unfold Func.isWrapper; first | (rw [if_pos (by decide +kernel)]; kernel_rfl) | (rw [if_neg (by decide +kernel)]; exact ⟨rfl, rfl⟩))
    (fun os started H enc _ => storeForks_lifted os started H enc)

#print axioms storeForks_holds
end Go.Proofs.Ytcfefgeheibadaa
