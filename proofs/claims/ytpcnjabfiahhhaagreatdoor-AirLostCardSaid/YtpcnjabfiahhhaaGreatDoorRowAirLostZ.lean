/-
  The law AirLost tells true at every input, and its input reads as it did.
  Conditions: none.
-/
import Derived.Test.YtpcnjabfiahhhaaGreatDoorRows
import Derived.Test.YtpcnjabfiahhhaaGreatDoorK51
import Derived.Test.YtpcnjabfiahhhaaGreatDoorK48
import Derived.ProofKit
import Derived.Test.YtpcnjabfiahhhaaGreatDoorCards
import Derived.Test.YtpcnjabfiahhhaaGreatDoorTie
import Derived.ChangeSame
import Derived.ChangeVars
import Derived.JoinedOf
import Derived.RowKit
import Derived.LaidLaws
import Derived.LaidHandle
import Derived.LaidMore
import Derived.Stop.Joined
import Derived.SevenTiedAt
set_option linter.all false
namespace Go.Proofs.YtpcnjabfiahhhaaGreatDoor
open Go.ChangeShapes Go.WideShapes Go.ChangeAt Go.RowKit Go.Abs
theorem airLost_own : ownKnob Tryz.prog.godebug = none := by kernel_rfl
theorem airLost_laidOut : laidOutB Tryz.prog = true := by kernel_rfl
theorem airLost_met (os : Os) (args : Array Value) : laidMetH Tryz.prog Rows.airLostRow.laid ((World.doorLaid Tryz.prog 35 os).forCall (fun _ _ => 0) ⟨#[], args, []⟩).memory :=
 laidMetH_of_parts3 (fuel := 8) (laidMet_of_run' 8 (by kernel_rfl) (by kernel_rfl)) (by kernel_rfl) (by kernel_rfl)
set_option maxRecDepth 100000 in
theorem airLost_lifted (os : Os) (started : os.Started) (H : Type) (enc : TypeId × Value → H) :
 ReturnsInHanded {} Tryz.checked os 12 .any (fun w args => (Rows.airLostSpec.pre enc Tryz.prog Tryz.f12 [] false w args ∧ laidMetH Tryz.prog Rows.airLostRow.laid w) ∧ sizedMet enc Tryz.prog Tryz.f12 (OpenSpec.ofChange Rows.airLostSpec) false w args) (Rows.airLostSpec.post enc Tryz.prog Tryz.f12 false true false false) := by
 refine returnsInHanded_of_change_and (C := Tryz.checked) (X := fun w _ => laidMetH Tryz.prog Rows.airLostRow.laid w) (fun _ _ _ hh h => h.of_heap hh) airLost_own started (by kernel_rfl) Tryz.func12
  (ChangeSpec.witness_shaped (enc := enc) (C := Tryz.checked) (os := os) (X := fun w _ => laidMetH Tryz.prog Rows.airLostRow.laid w) false (World.doorLaid Tryz.prog 35 os) #[.int .i64 0, .int .u8 0, .agg #[.bool false, .int .i64 0, .slice none 0 0], .slice none 0 0, .int .u8 0] 8 rfl (World.shaped_of_RefB (by kernel_rfl) (by kernel_rfl)) (by kernel_rfl) (by kernel_rfl) (by kernel_rfl) (airLost_met os _)) ?_
 intro W base args ds gs before hval hW _ hwt _ _
 exact rL (P := Tryz.prog) (T := tab) (pure := eM) aEg airLost_laidOut (f := 12) (fn := Tryz.f12) (s := Rows.airLostSpec) (tys := [.int .i64, .int .u8, tG, .sl yY, .int .u8]) (by kernel_rfl) (by kernel_rfl) (by kernel_rfl) rfl
  (fun ds h => match ds, h with | [a0, a1, a2, a3, a4], _ => rfl) (fun _ h => airLost h) W base args ds gs before hval hW hwt
theorem airLost_named : Tryz.pinned.checked.prog.funcNamed Rows.airLostRow.func = some 12 := by kernel_rfl
theorem airLost_closed : joinedFacts Tryz.pinned.checked.prog 12 Tryz.f12 Rows.airLostSpec Rows.airLostRow = true := by kernel_rfl
theorem airLost_inst : Tryz.f12.isInstance Tryz.pinned.checked.prog Rows.airLostRow.origin Rows.airLostRow.targs := of_decide_eq_true (by kernel_rfl)
theorem airLost_wrap : Tryz.f12.isWrapper Tryz.pinned.checked.prog Rows.airLostRow.wrapper Rows.airLostRow.mainSum := by
 unfold Func.isWrapper; first | (rw [if_pos (by decide +kernel)]; kernel_rfl) | (rw [if_neg (by decide +kernel)]; exact ⟨rfl, rfl⟩)
theorem airLost_row : Rows.AirLostSaid :=
 OpenClaim.holds_of_wide 12 Tryz.f12 rfl rfl rfl rfl rfl rfl rfl ⟨rfl, rfl, rfl, rfl, rfl⟩ rfl rfl rfl rfl rfl airLost_named Tryz.func12 airLost_closed airLost_inst airLost_wrap
  (fun os started H enc _ => airLost_lifted os started H enc)
theorem airLost_holds : Rows.AirLostCardSaid :=
 Claim7.holds_tied_plain_at .later [] [.handle, .sentinel] true Rows.airLostCard.stood.harness true
  airLost_row (fun _ h => by cases h) (by kernel_rfl) (fun _ h => by cases h) airLost_row_tie rfl ⟨rfl, rfl⟩ (by kernel_rfl) rfl
  (fun f fn hf hfn => by
   obtain rfl : f = 12 := Option.some.inj ((show Tryz.prog.funcNamed Rows.airLostRow.func = some 12 by kernel_rfl).symm.trans hf) |>.symm
   obtain rfl : fn = Tryz.f12 := (Option.some.inj (Tryz.func12.symm.trans hfn)).symm
   refine ⟨by kernel_rfl, fun j t ht => ?_⟩
   have hall : (Tryz.f12.params.toList.all fun t => !Tryz.prog.wantsStandIn t) = true := by kernel_rfl
   have hm : t ∈ Tryz.f12.params.toList := Array.mem_toList_iff.2 (Array.mem_of_getElem? ht)
   exact (show Tryz.prog.wantsStandIn t = false by simpa using List.all_eq_true.1 hall t hm))
  (by kernel_rfl)
#print axioms airLost_holds
end Go.Proofs.YtpcnjabfiahhhaaGreatDoor
