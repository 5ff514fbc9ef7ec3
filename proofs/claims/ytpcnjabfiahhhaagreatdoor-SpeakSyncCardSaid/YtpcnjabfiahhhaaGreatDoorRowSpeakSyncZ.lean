/-
  The law SpeakSync tells true at every input, and its input reads as it did.
  Conditions: none.
-/
import Derived.Test.YtpcnjabfiahhhaaGreatDoorRows
import Derived.Test.YtpcnjabfiahhhaaGreatDoorJ49
import Derived.Test.YtpcnjabfiahhhaaGreatDoorJ48
import Derived.ProofKit
import Derived.Test.YtpcnjabfiahhhaaGreatDoorCards
import Derived.Test.YtpcnjabfiahhhaaGreatDoorTie
import Derived.ChangeSame
import Derived.ChangeVars
import Derived.JoinedOf
import Derived.RowKit
import Derived.LaidLaws
import Derived.LaidHandle
import Derived.LaidMore
import Derived.Stop.Joined
import Derived.SevenTiedAt
set_option linter.all false
namespace Go.Proofs.YtpcnjabfiahhhaaGreatDoor
open Go.ChangeShapes Go.WideShapes Go.ChangeAt Go.RowKit Go.Abs
theorem speakSync_own : ownKnob Tryz.prog.godebug = none := by kernel_rfl
theorem speakSync_laidOut : laidOutB Tryz.prog = true := by kernel_rfl
theorem speakSync_met (os : Os) (args : Array Value) : laidMetH Tryz.prog Rows.speakSyncRow.laid ((World.doorLaid Tryz.prog 35 os).forCall (fun _ _ => 0) ⟨#[], args, []⟩).memory :=
 laidMetH_of_parts3 (fuel := 8) (laidMet_of_run' 8 (by kernel_rfl) (by kernel_rfl)) (by kernel_rfl) (by kernel_rfl)
set_option maxRecDepth 100000 in
theorem speakSync_lifted (os : Os) (started : os.Started) (H : Type) (enc : TypeId × Value → H) :
 ReturnsInHanded {} Tryz.checked os 3 .any (fun w args => (Rows.speakSyncSpec.pre enc Tryz.prog Tryz.f3 [] false w args ∧ laidMetH Tryz.prog Rows.speakSyncRow.laid w) ∧ sizedMet enc Tryz.prog Tryz.f3 (OpenSpec.ofChange Rows.speakSyncSpec) false w args) (Rows.speakSyncSpec.post enc Tryz.prog Tryz.f3 false true false false) := by
 refine returnsInHanded_of_change_and (C := Tryz.checked) (X := fun w _ => laidMetH Tryz.prog Rows.speakSyncRow.laid w) (fun _ _ _ hh h => h.of_heap hh) speakSync_own started (by kernel_rfl) Tryz.func3
  (ChangeSpec.witness_shaped (enc := enc) (C := Tryz.checked) (os := os) (X := fun w _ => laidMetH Tryz.prog Rows.speakSyncRow.laid w) false (World.doorLaid Tryz.prog 35 os) #[.int .i64 0, .int .i64 0, .int .i64 0, .agg #[.int .i64 0, .int .i64 0, .int .i64 0, .int .i64 0, .int .i64 0, .slice none 0 0, .int .i64 0, .int .i64 0], .int .i64 0] 8 rfl (World.shaped_of_RefB (by kernel_rfl) (by kernel_rfl)) (by kernel_rfl) (by kernel_rfl) (by kernel_rfl) (speakSync_met os _)) ?_
 intro W base args ds gs before hval hW _ hwt _ _
 exact aBc (P := Tryz.prog) (T := tab) (pure := aK) aT2 speakSync_laidOut (f := 3) (fn := Tryz.f3) (s := Rows.speakSyncSpec) (tys := [.int .i64, .int .i64, .int .i64, aBe, .int .i64]) (by kernel_rfl) (by kernel_rfl) (by kernel_rfl) rfl
  (fun ds h => match ds, h with | [a0, a1, a2, a3, a4], _ => rfl) (fun _ h => speakSync h) W base args ds gs before hval hW hwt
theorem speakSync_named : Tryz.pinned.checked.prog.funcNamed Rows.speakSyncRow.func = some 3 := by kernel_rfl
theorem speakSync_closed : joinedFacts Tryz.pinned.checked.prog 3 Tryz.f3 Rows.speakSyncSpec Rows.speakSyncRow = true := by kernel_rfl
theorem speakSync_inst : Tryz.f3.isInstance Tryz.pinned.checked.prog Rows.speakSyncRow.origin Rows.speakSyncRow.targs := of_decide_eq_true (by kernel_rfl)
theorem speakSync_wrap : Tryz.f3.isWrapper Tryz.pinned.checked.prog Rows.speakSyncRow.wrapper Rows.speakSyncRow.mainSum := by
 unfold Func.isWrapper; first | (rw [if_pos (by decide +kernel)]; kernel_rfl) | (rw [if_neg (by decide +kernel)]; exact ⟨rfl, rfl⟩)
theorem speakSync_row : Rows.SpeakSyncSaid :=
 OpenClaim.holds_of_wide 3 Tryz.f3 rfl rfl rfl rfl rfl rfl rfl ⟨rfl, rfl, rfl, rfl, rfl⟩ rfl rfl rfl rfl rfl speakSync_named Tryz.func3 speakSync_closed speakSync_inst speakSync_wrap
  (fun os started H enc _ => speakSync_lifted os started H enc)
theorem speakSync_holds : Rows.SpeakSyncCardSaid :=
 Claim7.holds_tied_plain_at .later [] [.handle, .sentinel] true Rows.speakSyncCard.stood.harness true
  speakSync_row (fun _ h => by cases h) (by kernel_rfl) (fun _ h => by cases h) speakSync_row_tie rfl ⟨rfl, rfl⟩ (by kernel_rfl) rfl
  (fun f fn hf hfn => by
   obtain rfl : f = 3 := Option.some.inj ((show Tryz.prog.funcNamed Rows.speakSyncRow.func = some 3 by kernel_rfl).symm.trans hf) |>.symm
   obtain rfl : fn = Tryz.f3 := (Option.some.inj (Tryz.func3.symm.trans hfn)).symm
   refine ⟨by kernel_rfl, fun j t ht => ?_⟩
   have hall : (Tryz.f3.params.toList.all fun t => !Tryz.prog.wantsStandIn t) = true := by kernel_rfl
   have hm : t ∈ Tryz.f3.params.toList := Array.mem_toList_iff.2 (Array.mem_of_getElem? ht)
   exact (show Tryz.prog.wantsStandIn t = false by simpa using List.all_eq_true.1 hall t hm))
  (by kernel_rfl)
#print axioms speakSync_holds
end Go.Proofs.YtpcnjabfiahhhaaGreatDoor
