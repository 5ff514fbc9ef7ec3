/-
  The law AirOrder tells true at every input, and its input reads as it did.
  Conditions: none.
-/
import Derived.Test.YtpcnjabfiahhhaaGreatDoorRows
import Derived.Test.YtpcnjabfiahhhaaGreatDoorK51
import Derived.Test.YtpcnjabfiahhhaaGreatDoorK48
import Derived.ProofKit
import Derived.Test.YtpcnjabfiahhhaaGreatDoorCards
import Derived.Test.YtpcnjabfiahhhaaGreatDoorTie
import Derived.ChangeSame
import Derived.ChangeVars
import Derived.JoinedOf
import Derived.RowKit
import Derived.LaidLaws
import Derived.LaidHandle
import Derived.LaidMore
import Derived.Stop.Joined
import Derived.SevenTiedAt
set_option linter.all false
namespace Go.Proofs.YtpcnjabfiahhhaaGreatDoor
open Go.ChangeShapes Go.WideShapes Go.ChangeAt Go.RowKit Go.Abs
theorem airOrder_own : ownKnob Tryz.prog.godebug = none := by kernel_rfl
theorem airOrder_laidOut : laidOutB Tryz.prog = true := by kernel_rfl
theorem airOrder_met (os : Os) (args : Array Value) : laidMetH Tryz.prog Rows.airOrderRow.laid ((World.doorLaid Tryz.prog 35 os).forCall (fun _ _ => 0) ⟨#[], args, []⟩).memory :=
 laidMetH_of_parts3 (fuel := 8) (laidMet_of_run' 8 (by kernel_rfl) (by kernel_rfl)) (by kernel_rfl) (by kernel_rfl)
set_option maxRecDepth 100000 in
theorem airOrder_lifted (os : Os) (started : os.Started) (H : Type) (enc : TypeId × Value → H) :
 ReturnsInHanded {} Tryz.checked os 11 .any (fun w args => (Rows.airOrderSpec.pre enc Tryz.prog Tryz.f11 [] false w args ∧ laidMetH Tryz.prog Rows.airOrderRow.laid w) ∧ sizedMet enc Tryz.prog Tryz.f11 (OpenSpec.ofChange Rows.airOrderSpec) false w args) (Rows.airOrderSpec.post enc Tryz.prog Tryz.f11 false true false false) := by
 refine returnsInHanded_of_change_and (C := Tryz.checked) (X := fun w _ => laidMetH Tryz.prog Rows.airOrderRow.laid w) (fun _ _ _ hh h => h.of_heap hh) airOrder_own started (by kernel_rfl) Tryz.func11
  (ChangeSpec.witness_shaped (enc := enc) (C := Tryz.checked) (os := os) (X := fun w _ => laidMetH Tryz.prog Rows.airOrderRow.laid w) false (World.doorLaid Tryz.prog 35 os) #[.int .i64 0, .int .u8 0, .agg #[.bool false, .int .i64 0, .slice none 0 0], .slice none 0 0, .slice none 0 0] 8 rfl (World.shaped_of_RefB (by kernel_rfl) (by kernel_rfl)) (by kernel_rfl) (by kernel_rfl) (by kernel_rfl) (airOrder_met os _)) ?_
 intro W base args ds gs before hval hW _ hwt _ _
 exact rL (P := Tryz.prog) (T := tab) (pure := eM) aEg airOrder_laidOut (f := 11) (fn := Tryz.f11) (s := Rows.airOrderSpec) (tys := [.int .i64, .int .u8, tG, .sl yY, .sl (.int .i64)]) (by kernel_rfl) (by kernel_rfl) (by kernel_rfl) rfl
  (fun ds h => match ds, h with | [a0, a1, a2, a3, a4], _ => rfl) (fun _ h => airOrder h) W base args ds gs before hval hW hwt
theorem airOrder_named : Tryz.pinned.checked.prog.funcNamed Rows.airOrderRow.func = some 11 := by kernel_rfl
theorem airOrder_closed : joinedFacts Tryz.pinned.checked.prog 11 Tryz.f11 Rows.airOrderSpec Rows.airOrderRow = true := by kernel_rfl
theorem airOrder_inst : Tryz.f11.isInstance Tryz.pinned.checked.prog Rows.airOrderRow.origin Rows.airOrderRow.targs := of_decide_eq_true (by kernel_rfl)
theorem airOrder_wrap : Tryz.f11.isWrapper Tryz.pinned.checked.prog Rows.airOrderRow.wrapper Rows.airOrderRow.mainSum := by
 unfold Func.isWrapper; first | (rw [if_pos (by decide +kernel)]; kernel_rfl) | (rw [if_neg (by decide +kernel)]; exact ⟨rfl, rfl⟩)
theorem airOrder_row : Rows.AirOrderSaid :=
 OpenClaim.holds_of_wide 11 Tryz.f11 rfl rfl rfl rfl rfl rfl rfl ⟨rfl, rfl, rfl, rfl, rfl⟩ rfl rfl rfl rfl rfl airOrder_named Tryz.func11 airOrder_closed airOrder_inst airOrder_wrap
  (fun os started H enc _ => airOrder_lifted os started H enc)
theorem airOrder_holds : Rows.AirOrderCardSaid :=
 Claim7.holds_tied_plain_at .later [] [.handle, .sentinel] true Rows.airOrderCard.stood.harness true
  airOrder_row (fun _ h => by cases h) (by kernel_rfl) (fun _ h => by cases h) airOrder_row_tie rfl ⟨rfl, rfl⟩ (by kernel_rfl) rfl
  (fun f fn hf hfn => by
   obtain rfl : f = 11 := Option.some.inj ((show Tryz.prog.funcNamed Rows.airOrderRow.func = some 11 by kernel_rfl).symm.trans hf) |>.symm
   obtain rfl : fn = Tryz.f11 := (Option.some.inj (Tryz.func11.symm.trans hfn)).symm
   refine ⟨by kernel_rfl, fun j t ht => ?_⟩
   have hall : (Tryz.f11.params.toList.all fun t => !Tryz.prog.wantsStandIn t) = true := by kernel_rfl
   have hm : t ∈ Tryz.f11.params.toList := Array.mem_toList_iff.2 (Array.mem_of_getElem? ht)
   exact (show Tryz.prog.wantsStandIn t = false by simpa using List.all_eq_true.1 hall t hm))
  (by kernel_rfl)
#print axioms airOrder_holds
end Go.Proofs.YtpcnjabfiahhhaaGreatDoor
