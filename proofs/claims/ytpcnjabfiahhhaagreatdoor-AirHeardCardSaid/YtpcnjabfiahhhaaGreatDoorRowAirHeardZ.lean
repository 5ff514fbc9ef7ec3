/-
  The law AirHeard tells true at every input, and its input reads as it did.
  Conditions: none.
-/
import Derived.Test.YtpcnjabfiahhhaaGreatDoorRows
import Derived.Test.YtpcnjabfiahhhaaGreatDoorK50
import Derived.Test.YtpcnjabfiahhhaaGreatDoorK48
import Derived.ProofKit
import Derived.Test.YtpcnjabfiahhhaaGreatDoorCards
import Derived.Test.YtpcnjabfiahhhaaGreatDoorTie
import Derived.ChangeSame
import Derived.ChangeVars
import Derived.JoinedOf
import Derived.RowKit
import Derived.LaidLaws
import Derived.LaidHandle
import Derived.LaidMore
import Derived.Stop.Joined
import Derived.SevenTiedAt
set_option linter.all false
namespace Go.Proofs.YtpcnjabfiahhhaaGreatDoor
open Go.ChangeShapes Go.WideShapes Go.ChangeAt Go.RowKit Go.Abs
theorem airHeard_own : ownKnob Tryz.prog.godebug = none := by kernel_rfl
theorem airHeard_laidOut : laidOutB Tryz.prog = true := by kernel_rfl
theorem airHeard_met (os : Os) (args : Array Value) : laidMetH Tryz.prog Rows.airHeardRow.laid ((World.doorLaid Tryz.prog 35 os).forCall (fun _ _ => 0) ⟨#[], args, []⟩).memory :=
 laidMetH_of_parts3 (fuel := 8) (laidMet_of_run' 8 (by kernel_rfl) (by kernel_rfl)) (by kernel_rfl) (by kernel_rfl)
set_option maxRecDepth 100000 in
theorem airHeard_lifted (os : Os) (started : os.Started) (H : Type) (enc : TypeId × Value → H) :
 ReturnsInHanded {} Tryz.checked os 10 .any (fun w args => (Rows.airHeardSpec.pre enc Tryz.prog Tryz.f10 [] false w args ∧ laidMetH Tryz.prog Rows.airHeardRow.laid w) ∧ sizedMet enc Tryz.prog Tryz.f10 (OpenSpec.ofChange Rows.airHeardSpec) false w args) (Rows.airHeardSpec.post enc Tryz.prog Tryz.f10 false true false false) := by
 refine returnsInHanded_of_change_and (C := Tryz.checked) (X := fun w _ => laidMetH Tryz.prog Rows.airHeardRow.laid w) (fun _ _ _ hh h => h.of_heap hh) airHeard_own started (by kernel_rfl) Tryz.func10
  (ChangeSpec.witness_shaped (enc := enc) (C := Tryz.checked) (os := os) (X := fun w _ => laidMetH Tryz.prog Rows.airHeardRow.laid w) false (World.doorLaid Tryz.prog 35 os) #[.int .i64 0, .int .u8 0, .agg #[.bool false, .int .i64 0, .slice none 0 0], .slice none 0 0, .slice none 0 0] 8 rfl (World.shaped_of_RefB (by kernel_rfl) (by kernel_rfl)) (by kernel_rfl) (by kernel_rfl) (by kernel_rfl) (airHeard_met os _)) ?_
 intro W base args ds gs before hval hW _ hwt _ _
 exact rL (P := Tryz.prog) (T := tab) (pure := eM) aEg airHeard_laidOut (f := 10) (fn := Tryz.f10) (s := Rows.airHeardSpec) (tys := [.int .i64, .int .u8, tG, .sl yY, .sl (.int .i64)]) (by kernel_rfl) (by kernel_rfl) (by kernel_rfl) rfl
  (fun ds h => match ds, h with | [a0, a1, a2, a3, a4], _ => rfl) (fun _ h => airHeard h) W base args ds gs before hval hW hwt
theorem airHeard_named : Tryz.pinned.checked.prog.funcNamed Rows.airHeardRow.func = some 10 := by kernel_rfl
theorem airHeard_closed : joinedFacts Tryz.pinned.checked.prog 10 Tryz.f10 Rows.airHeardSpec Rows.airHeardRow = true := by kernel_rfl
theorem airHeard_inst : Tryz.f10.isInstance Tryz.pinned.checked.prog Rows.airHeardRow.origin Rows.airHeardRow.targs := of_decide_eq_true (by kernel_rfl)
theorem airHeard_wrap : Tryz.f10.isWrapper Tryz.pinned.checked.prog Rows.airHeardRow.wrapper Rows.airHeardRow.mainSum := by
 unfold Func.isWrapper; first | (rw [if_pos (by decide +kernel)]; kernel_rfl) | (rw [if_neg (by decide +kernel)]; exact ⟨rfl, rfl⟩)
theorem airHeard_row : Rows.AirHeardSaid :=
 OpenClaim.holds_of_wide 10 Tryz.f10 rfl rfl rfl rfl rfl rfl rfl ⟨rfl, rfl, rfl, rfl, rfl⟩ rfl rfl rfl rfl rfl airHeard_named Tryz.func10 airHeard_closed airHeard_inst airHeard_wrap
  (fun os started H enc _ => airHeard_lifted os started H enc)
theorem airHeard_holds : Rows.AirHeardCardSaid :=
 Claim7.holds_tied_plain_at .later [] [.handle, .sentinel] true Rows.airHeardCard.stood.harness true
  airHeard_row (fun _ h => by cases h) (by kernel_rfl) (fun _ h => by cases h) airHeard_row_tie rfl ⟨rfl, rfl⟩ (by kernel_rfl) rfl
  (fun f fn hf hfn => by
   obtain rfl : f = 10 := Option.some.inj ((show Tryz.prog.funcNamed Rows.airHeardRow.func = some 10 by kernel_rfl).symm.trans hf) |>.symm
   obtain rfl : fn = Tryz.f10 := (Option.some.inj (Tryz.func10.symm.trans hfn)).symm
   refine ⟨by kernel_rfl, fun j t ht => ?_⟩
   have hall : (Tryz.f10.params.toList.all fun t => !Tryz.prog.wantsStandIn t) = true := by kernel_rfl
   have hm : t ∈ Tryz.f10.params.toList := Array.mem_toList_iff.2 (Array.mem_of_getElem? ht)
   exact (show Tryz.prog.wantsStandIn t = false by simpa using List.all_eq_true.1 hall t hm))
  (by kernel_rfl)
#print axioms airHeard_holds
end Go.Proofs.YtpcnjabfiahhhaaGreatDoor
