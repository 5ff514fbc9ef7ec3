/-
  NARROWER THAN 'FOR EVERY INPUT', by the rows' own cells (each row's printed sentence says how): SpeakSync: laid · SpeakHeard: laid · SpeakMessages: laid · SpeakOffers: laid · SpeakPort: laid · SpeakAlign: laid · AirRaw: laid · AirHeard: laid · AirOrder: laid · AirLost: laid · AirFits: laid.
  DERIVED. THE GIVEN ROWS OF THIS SEAT. 11 by the template 'for every input the law returns true; each argument reads behind the call as it read before'; 0 by the template 'total and deterministic' (their statements: YtpcnjabfiahhhaaGreatDoorTotals.lean).
  GIVEN WITH THE SEED: the statements are not yours to turn. If you find one false, say at which input.
  Laid BY PROGRAM, IN A SANDBOX (cutbox-rows.mjs): the forced cells as the released guide's own fill.sh prints them over the translation da3d5047240b7d3e… (all of the seat's roots in one cut). By AI agents, Wed Nov 11 2026. No macro, syntax, notation, axiom, sorry.
-/
import Derived.Test.YtpcnjabfiahhhaaGreatDoorChecked
import GoSem.Claim
import GoSem.ClaimJoined
import GoSem.ClaimMapViews
import Derived.JoinedTies
import Derived.KernelRfl
namespace Go.Proofs.YtpcnjabfiahhhaaGreatDoor
/- THE CELL 'sum', in the pinned program and in every row, IS THE sha256 OF THE DUMP (.gsa) THAT YtpcnjabfiahhhaaGreatDoorProg.lean LOADS. Nothing in Lean hashes anything: it is a label: what it is worth is what the hold of that sum in a sandbox is worth. -/
noncomputable def Tryz.pinned : Pinned := { name := "ytpcnjabfiahhhaagreatdoor", sum := "da3d5047240b7d3ee4445ca9fbc12acf4159fa918f64359bf49453d914eb54a7", checked := Tryz.checked }
namespace Rows
def none {H : Type} : Left H := { results := [], args := [] }

/- WHAT THE LISTED PACKAGE-LEVEL VARIABLES READ AS WHEN THE CALL BEGINS. Each datum BY PROGRAM (the guide's laid-datum.mjs) off the statement by which the dump's own 'gosem.cut.vars' lays the variable. In a bare row this is a premise. The card (YtpcnjabfiahhhaaGreatDoorCards.lean) ties it to the program's text. -/
def laid_errors_errorType {H : Type} : DataW H := .iface "internal/reflectlite.rtype" (.agg [.ptr (.lit (.string [101, 114, 114, 111, 114]))])
def laid_drumline_bounds_out {H : Type} : DataW H := .iface "*errors.errorString" (.ptr (.agg [.lit (.string [98, 111, 117, 110, 100, 115, 58, 32, 111, 117, 116, 32, 111, 102, 32, 114, 97, 110, 103, 101])]))

/-- 'drumlinelaw17.SpeakSync': WHATEVER THE INPUT: true; the input reads as it did. -/
def speakSyncSpec : ChangeSpec := { name := "speakSync", fn := fun _ => fun
  | [d1, d2, d3, d4, d5] => { results := [.lit (.bool true)], args := [d1, d2, d3, d4, d5] }
  | _ => none }
def speakSyncRow : OpenClaim := { program := "ytpcnjabfiahhhaagreatdoor", sum := "da3d5047240b7d3ee4445ca9fbc12acf4159fa918f64359bf49453d914eb54a7", func := "drumline/drumlinelaw17.SpeakSync", spec := "speakSync", inPlace := ["internal/reflectlite.ValueOf", "(internal/reflectlite.Value).Type", "(internal/reflectlite.Value).IsNil", "internal/reflectlite.TypeOf", "(internal/reflectlite.Value).Elem", "(internal/reflectlite.Value).Set"], unfollowed := true, recurses := true, named := ["drumline/bounds.out", "errors.errorType"], apart := false, laid := [("errors.errorType", laid_errors_errorType), ("drumline/bounds.out", laid_drumline_bounds_out)] }
def SpeakSyncSaid : Prop := speakSyncRow.holds Tryz.pinned (OpenSpec.ofChange speakSyncSpec)

/-- ITS FALSE NEIGHBOUR: 'it returns false'. Refute it at one input. -/
def speakSyncWrong : ChangeSpec := { name := "speakSync", fn := fun _ => fun
  | [d1, d2, d3, d4, d5] => { results := [.lit (.bool false)], args := [d1, d2, d3, d4, d5] }
  | _ => none }
def SpeakSyncWrongFalsely : Prop := speakSyncRow.holds Tryz.pinned (OpenSpec.ofChange speakSyncWrong)

/-- 'drumlinelaw17.SpeakHeard': WHATEVER THE INPUT: true; the input reads as it did. -/
def speakHeardSpec : ChangeSpec := { name := "speakHeard", fn := fun _ => fun
  | [d1, d2, d3, d4, d5, d6] => { results := [.lit (.bool true)], args := [d1, d2, d3, d4, d5, d6] }
  | _ => none }
def speakHeardRow : OpenClaim := { program := "ytpcnjabfiahhhaagreatdoor", sum := "da3d5047240b7d3ee4445ca9fbc12acf4159fa918f64359bf49453d914eb54a7", func := "drumline/drumlinelaw17.SpeakHeard", spec := "speakHeard", inPlace := ["internal/reflectlite.ValueOf", "(internal/reflectlite.Value).Type", "(internal/reflectlite.Value).IsNil", "internal/reflectlite.TypeOf", "(internal/reflectlite.Value).Elem", "(internal/reflectlite.Value).Set"], unfollowed := true, recurses := true, named := ["drumline/bounds.out", "errors.errorType"], apart := false, laid := [("errors.errorType", laid_errors_errorType), ("drumline/bounds.out", laid_drumline_bounds_out)] }
def SpeakHeardSaid : Prop := speakHeardRow.holds Tryz.pinned (OpenSpec.ofChange speakHeardSpec)

/-- ITS FALSE NEIGHBOUR: 'it returns false'. Refute it at one input. -/
def speakHeardWrong : ChangeSpec := { name := "speakHeard", fn := fun _ => fun
  | [d1, d2, d3, d4, d5, d6] => { results := [.lit (.bool false)], args := [d1, d2, d3, d4, d5, d6] }
  | _ => none }
def SpeakHeardWrongFalsely : Prop := speakHeardRow.holds Tryz.pinned (OpenSpec.ofChange speakHeardWrong)

/-- 'drumlinelaw17.SpeakMessages': WHATEVER THE INPUT: true; the input reads as it did. -/
def speakMessagesSpec : ChangeSpec := { name := "speakMessages", fn := fun _ => fun
  | [d1, d2, d3, d4, d5, d6] => { results := [.lit (.bool true)], args := [d1, d2, d3, d4, d5, d6] }
  | _ => none }
def speakMessagesRow : OpenClaim := { program := "ytpcnjabfiahhhaagreatdoor", sum := "da3d5047240b7d3ee4445ca9fbc12acf4159fa918f64359bf49453d914eb54a7", func := "drumline/drumlinelaw17.SpeakMessages", spec := "speakMessages", inPlace := ["internal/reflectlite.ValueOf", "(internal/reflectlite.Value).Type", "(internal/reflectlite.Value).IsNil", "internal/reflectlite.TypeOf", "(internal/reflectlite.Value).Elem", "(internal/reflectlite.Value).Set"], unfollowed := true, recurses := true, named := ["drumline/bounds.out", "errors.errorType"], apart := false, laid := [("errors.errorType", laid_errors_errorType), ("drumline/bounds.out", laid_drumline_bounds_out)] }
def SpeakMessagesSaid : Prop := speakMessagesRow.holds Tryz.pinned (OpenSpec.ofChange speakMessagesSpec)

/-- ITS FALSE NEIGHBOUR: 'it returns false'. Refute it at one input. -/
def speakMessagesWrong : ChangeSpec := { name := "speakMessages", fn := fun _ => fun
  | [d1, d2, d3, d4, d5, d6] => { results := [.lit (.bool false)], args := [d1, d2, d3, d4, d5, d6] }
  | _ => none }
def SpeakMessagesWrongFalsely : Prop := speakMessagesRow.holds Tryz.pinned (OpenSpec.ofChange speakMessagesWrong)

/-- 'drumlinelaw17.SpeakOffers': WHATEVER THE INPUT: true; the input reads as it did. -/
def speakOffersSpec : ChangeSpec := { name := "speakOffers", fn := fun _ => fun
  | [d1, d2, d3, d4, d5] => { results := [.lit (.bool true)], args := [d1, d2, d3, d4, d5] }
  | _ => none }
def speakOffersRow : OpenClaim := { program := "ytpcnjabfiahhhaagreatdoor", sum := "da3d5047240b7d3ee4445ca9fbc12acf4159fa918f64359bf49453d914eb54a7", func := "drumline/drumlinelaw17.SpeakOffers", spec := "speakOffers", inPlace := ["internal/reflectlite.ValueOf", "(internal/reflectlite.Value).Type", "(internal/reflectlite.Value).IsNil", "internal/reflectlite.TypeOf", "(internal/reflectlite.Value).Elem", "(internal/reflectlite.Value).Set"], unfollowed := true, recurses := true, named := ["drumline/bounds.out", "errors.errorType"], apart := false, laid := [("errors.errorType", laid_errors_errorType), ("drumline/bounds.out", laid_drumline_bounds_out)] }
def SpeakOffersSaid : Prop := speakOffersRow.holds Tryz.pinned (OpenSpec.ofChange speakOffersSpec)

/-- ITS FALSE NEIGHBOUR: 'it returns false'. Refute it at one input. -/
def speakOffersWrong : ChangeSpec := { name := "speakOffers", fn := fun _ => fun
  | [d1, d2, d3, d4, d5] => { results := [.lit (.bool false)], args := [d1, d2, d3, d4, d5] }
  | _ => none }
def SpeakOffersWrongFalsely : Prop := speakOffersRow.holds Tryz.pinned (OpenSpec.ofChange speakOffersWrong)

/-- 'drumlinelaw17.SpeakPort': WHATEVER THE INPUT: true; the input reads as it did. -/
def speakPortSpec : ChangeSpec := { name := "speakPort", fn := fun _ => fun
  | [d1, d2, d3, d4, d5, d6] => { results := [.lit (.bool true)], args := [d1, d2, d3, d4, d5, d6] }
  | _ => none }
def speakPortRow : OpenClaim := { program := "ytpcnjabfiahhhaagreatdoor", sum := "da3d5047240b7d3ee4445ca9fbc12acf4159fa918f64359bf49453d914eb54a7", func := "drumline/drumlinelaw17.SpeakPort", spec := "speakPort", inPlace := ["internal/reflectlite.ValueOf", "(internal/reflectlite.Value).Type", "(internal/reflectlite.Value).IsNil", "internal/reflectlite.TypeOf", "(internal/reflectlite.Value).Elem", "(internal/reflectlite.Value).Set"], unfollowed := true, recurses := true, named := ["drumline/bounds.out", "errors.errorType"], apart := false, laid := [("errors.errorType", laid_errors_errorType), ("drumline/bounds.out", laid_drumline_bounds_out)] }
def SpeakPortSaid : Prop := speakPortRow.holds Tryz.pinned (OpenSpec.ofChange speakPortSpec)

/-- ITS FALSE NEIGHBOUR: 'it returns false'. Refute it at one input. -/
def speakPortWrong : ChangeSpec := { name := "speakPort", fn := fun _ => fun
  | [d1, d2, d3, d4, d5, d6] => { results := [.lit (.bool false)], args := [d1, d2, d3, d4, d5, d6] }
  | _ => none }
def SpeakPortWrongFalsely : Prop := speakPortRow.holds Tryz.pinned (OpenSpec.ofChange speakPortWrong)

/-- 'drumlinelaw17.SpeakAlign': WHATEVER THE INPUT: true; the input reads as it did. -/
def speakAlignSpec : ChangeSpec := { name := "speakAlign", fn := fun _ => fun
  | [d1, d2, d3, d4, d5] => { results := [.lit (.bool true)], args := [d1, d2, d3, d4, d5] }
  | _ => none }
def speakAlignRow : OpenClaim := { program := "ytpcnjabfiahhhaagreatdoor", sum := "da3d5047240b7d3ee4445ca9fbc12acf4159fa918f64359bf49453d914eb54a7", func := "drumline/drumlinelaw17.SpeakAlign", spec := "speakAlign", inPlace := ["internal/reflectlite.ValueOf", "(internal/reflectlite.Value).Type", "(internal/reflectlite.Value).IsNil", "internal/reflectlite.TypeOf", "(internal/reflectlite.Value).Elem", "(internal/reflectlite.Value).Set"], unfollowed := true, recurses := true, named := ["drumline/bounds.out", "errors.errorType"], apart := false, laid := [("errors.errorType", laid_errors_errorType), ("drumline/bounds.out", laid_drumline_bounds_out)] }
def SpeakAlignSaid : Prop := speakAlignRow.holds Tryz.pinned (OpenSpec.ofChange speakAlignSpec)

/-- ITS FALSE NEIGHBOUR: 'it returns false'. Refute it at one input. -/
def speakAlignWrong : ChangeSpec := { name := "speakAlign", fn := fun _ => fun
  | [d1, d2, d3, d4, d5] => { results := [.lit (.bool false)], args := [d1, d2, d3, d4, d5] }
  | _ => none }
def SpeakAlignWrongFalsely : Prop := speakAlignRow.holds Tryz.pinned (OpenSpec.ofChange speakAlignWrong)

/-- 'drumlinelaw11.AirRaw': WHATEVER THE INPUT: true; the input reads as it did. -/
def airRawSpec : ChangeSpec := { name := "airRaw", fn := fun _ => fun
  | [d1, d2, d3, d4, d5, d6] => { results := [.lit (.bool true)], args := [d1, d2, d3, d4, d5, d6] }
  | _ => none }
def airRawRow : OpenClaim := { program := "ytpcnjabfiahhhaagreatdoor", sum := "da3d5047240b7d3ee4445ca9fbc12acf4159fa918f64359bf49453d914eb54a7", func := "drumline/drumlinelaw11.AirRaw", spec := "airRaw", inPlace := ["internal/reflectlite.ValueOf", "(internal/reflectlite.Value).Type", "(internal/reflectlite.Value).IsNil", "internal/reflectlite.TypeOf", "(internal/reflectlite.Value).Elem", "(internal/reflectlite.Value).Set"], unfollowed := true, recurses := true, named := ["drumline/bounds.out", "errors.errorType"], apart := false, laid := [("errors.errorType", laid_errors_errorType), ("drumline/bounds.out", laid_drumline_bounds_out)] }
def AirRawSaid : Prop := airRawRow.holds Tryz.pinned (OpenSpec.ofChange airRawSpec)

/-- ITS FALSE NEIGHBOUR: 'it returns false'. Refute it at one input. -/
def airRawWrong : ChangeSpec := { name := "airRaw", fn := fun _ => fun
  | [d1, d2, d3, d4, d5, d6] => { results := [.lit (.bool false)], args := [d1, d2, d3, d4, d5, d6] }
  | _ => none }
def AirRawWrongFalsely : Prop := airRawRow.holds Tryz.pinned (OpenSpec.ofChange airRawWrong)

/-- 'drumlinelaw11.AirHeard': WHATEVER THE INPUT: true; the input reads as it did. -/
def airHeardSpec : ChangeSpec := { name := "airHeard", fn := fun _ => fun
  | [d1, d2, d3, d4, d5] => { results := [.lit (.bool true)], args := [d1, d2, d3, d4, d5] }
  | _ => none }
def airHeardRow : OpenClaim := { program := "ytpcnjabfiahhhaagreatdoor", sum := "da3d5047240b7d3ee4445ca9fbc12acf4159fa918f64359bf49453d914eb54a7", func := "drumline/drumlinelaw11.AirHeard", spec := "airHeard", inPlace := ["internal/reflectlite.ValueOf", "(internal/reflectlite.Value).Type", "(internal/reflectlite.Value).IsNil", "internal/reflectlite.TypeOf", "(internal/reflectlite.Value).Elem", "(internal/reflectlite.Value).Set"], unfollowed := true, recurses := true, named := ["drumline/bounds.out", "errors.errorType"], apart := false, laid := [("errors.errorType", laid_errors_errorType), ("drumline/bounds.out", laid_drumline_bounds_out)] }
def AirHeardSaid : Prop := airHeardRow.holds Tryz.pinned (OpenSpec.ofChange airHeardSpec)

/-- ITS FALSE NEIGHBOUR: 'it returns false'. Refute it at one input. -/
def airHeardWrong : ChangeSpec := { name := "airHeard", fn := fun _ => fun
  | [d1, d2, d3, d4, d5] => { results := [.lit (.bool false)], args := [d1, d2, d3, d4, d5] }
  | _ => none }
def AirHeardWrongFalsely : Prop := airHeardRow.holds Tryz.pinned (OpenSpec.ofChange airHeardWrong)

/-- 'drumlinelaw11.AirOrder': WHATEVER THE INPUT: true; the input reads as it did. -/
def airOrderSpec : ChangeSpec := { name := "airOrder", fn := fun _ => fun
  | [d1, d2, d3, d4, d5] => { results := [.lit (.bool true)], args := [d1, d2, d3, d4, d5] }
  | _ => none }
def airOrderRow : OpenClaim := { program := "ytpcnjabfiahhhaagreatdoor", sum := "da3d5047240b7d3ee4445ca9fbc12acf4159fa918f64359bf49453d914eb54a7", func := "drumline/drumlinelaw11.AirOrder", spec := "airOrder", inPlace := ["internal/reflectlite.ValueOf", "(internal/reflectlite.Value).Type", "(internal/reflectlite.Value).IsNil", "internal/reflectlite.TypeOf", "(internal/reflectlite.Value).Elem", "(internal/reflectlite.Value).Set"], unfollowed := true, recurses := true, named := ["drumline/bounds.out", "errors.errorType"], apart := false, laid := [("errors.errorType", laid_errors_errorType), ("drumline/bounds.out", laid_drumline_bounds_out)] }
def AirOrderSaid : Prop := airOrderRow.holds Tryz.pinned (OpenSpec.ofChange airOrderSpec)

/-- ITS FALSE NEIGHBOUR: 'it returns false'. Refute it at one input. -/
def airOrderWrong : ChangeSpec := { name := "airOrder", fn := fun _ => fun
  | [d1, d2, d3, d4, d5] => { results := [.lit (.bool false)], args := [d1, d2, d3, d4, d5] }
  | _ => none }
def AirOrderWrongFalsely : Prop := airOrderRow.holds Tryz.pinned (OpenSpec.ofChange airOrderWrong)

/-- 'drumlinelaw11.AirLost': WHATEVER THE INPUT: true; the input reads as it did. -/
def airLostSpec : ChangeSpec := { name := "airLost", fn := fun _ => fun
  | [d1, d2, d3, d4, d5] => { results := [.lit (.bool true)], args := [d1, d2, d3, d4, d5] }
  | _ => none }
def airLostRow : OpenClaim := { program := "ytpcnjabfiahhhaagreatdoor", sum := "da3d5047240b7d3ee4445ca9fbc12acf4159fa918f64359bf49453d914eb54a7", func := "drumline/drumlinelaw11.AirLost", spec := "airLost", inPlace := ["internal/reflectlite.ValueOf", "(internal/reflectlite.Value).Type", "(internal/reflectlite.Value).IsNil", "internal/reflectlite.TypeOf", "(internal/reflectlite.Value).Elem", "(internal/reflectlite.Value).Set"], unfollowed := true, recurses := true, named := ["drumline/bounds.out", "errors.errorType"], apart := false, laid := [("errors.errorType", laid_errors_errorType), ("drumline/bounds.out", laid_drumline_bounds_out)] }
def AirLostSaid : Prop := airLostRow.holds Tryz.pinned (OpenSpec.ofChange airLostSpec)

/-- ITS FALSE NEIGHBOUR: 'it returns false'. Refute it at one input. -/
def airLostWrong : ChangeSpec := { name := "airLost", fn := fun _ => fun
  | [d1, d2, d3, d4, d5] => { results := [.lit (.bool false)], args := [d1, d2, d3, d4, d5] }
  | _ => none }
def AirLostWrongFalsely : Prop := airLostRow.holds Tryz.pinned (OpenSpec.ofChange airLostWrong)

/-- 'drumlinelaw11.AirFits': WHATEVER THE INPUT: true; the input reads as it did. -/
def airFitsSpec : ChangeSpec := { name := "airFits", fn := fun _ => fun
  | [d1, d2, d3, d4] => { results := [.lit (.bool true)], args := [d1, d2, d3, d4] }
  | _ => none }
def airFitsRow : OpenClaim := { program := "ytpcnjabfiahhhaagreatdoor", sum := "da3d5047240b7d3ee4445ca9fbc12acf4159fa918f64359bf49453d914eb54a7", func := "drumline/drumlinelaw11.AirFits", spec := "airFits", inPlace := ["internal/reflectlite.ValueOf", "(internal/reflectlite.Value).Type", "(internal/reflectlite.Value).IsNil", "internal/reflectlite.TypeOf", "(internal/reflectlite.Value).Elem", "(internal/reflectlite.Value).Set"], unfollowed := true, recurses := true, named := ["drumline/bounds.out", "errors.errorType"], apart := false, laid := [("errors.errorType", laid_errors_errorType), ("drumline/bounds.out", laid_drumline_bounds_out)] }
def AirFitsSaid : Prop := airFitsRow.holds Tryz.pinned (OpenSpec.ofChange airFitsSpec)

/-- ITS FALSE NEIGHBOUR: 'it returns false'. Refute it at one input. -/
def airFitsWrong : ChangeSpec := { name := "airFits", fn := fun _ => fun
  | [d1, d2, d3, d4] => { results := [.lit (.bool false)], args := [d1, d2, d3, d4] }
  | _ => none }
def AirFitsWrongFalsely : Prop := airFitsRow.holds Tryz.pinned (OpenSpec.ofChange airFitsWrong)

/- THE SECOND FORM. 'bulk': how many values and letters a reading holds, each counted each time it is reached (what is shared counts as often as it is met; a slice's spare places count too). A statement '..UptoSaid' is the law's where the arguments, and the package variables that the reading takes, are together of bulk at most 1048576: NARROWER than '..Said'. Prove '..Said' where nothing that the law and all that it calls make is longer than what came in: it says more and counts as full. Else prove '..UptoSaid'. A law counts once. -/
mutual
def uptoBulk {H : Type} : DataW H → Nat
  | .lit (.string bytes) => bytes.length + 1
  | .lit _ => 1
  | .nil => 1
  | .ptr d => uptoBulk d + 1
  | .slice elems spare => uptoBulkAll elems + uptoBulkAll spare + 1
  | .agg parts => uptoBulkAll parts + 1
  | .iface _ d => uptoBulk d + 1
  | .map entries => uptoBulkEntries entries + 1
  | .held _ => 1
def uptoBulkAll {H : Type} : List (DataW H) → Nat
  | [] => 0
  | d :: r => uptoBulk d + uptoBulkAll r
def uptoBulkEntries {H : Type} : List (Lit × DataW H) → Nat
  | [] => 0
  | x :: r => uptoBulkEntry x + uptoBulkEntries r
def uptoBulkEntry {H : Type} : Lit × DataW H → Nat
  | (.string bytes, d) => bytes.length + uptoBulk d + 1
  | (_, d) => uptoBulk d + 1
 end
def uptoSmall : (H : Type) → List (DataW H) → Bool := fun _ ds => decide (uptoBulkAll ds ≤ 1048576)
def OpenSpec.upto (s : _root_.Go.ChangeSpec) : _root_.Go.OpenSpec := { _root_.Go.OpenSpec.ofChange s with cond := some uptoSmall }

/-- 'drumlinelaw17.SpeakSync', WHERE WHAT IT READS IS OF BULK AT MOST 1048576: true; the input reads as it did. -/
def speakSyncUptoRow : OpenClaim := { program := "ytpcnjabfiahhhaagreatdoor", sum := "da3d5047240b7d3ee4445ca9fbc12acf4159fa918f64359bf49453d914eb54a7", func := "drumline/drumlinelaw17.SpeakSync", spec := "speakSync", inPlace := ["internal/reflectlite.ValueOf", "(internal/reflectlite.Value).Type", "(internal/reflectlite.Value).IsNil", "internal/reflectlite.TypeOf", "(internal/reflectlite.Value).Elem", "(internal/reflectlite.Value).Set"], unfollowed := true, recurses := true, named := ["drumline/bounds.out", "errors.errorType"], apart := false, laid := [("errors.errorType", laid_errors_errorType), ("drumline/bounds.out", laid_drumline_bounds_out)], narrowed := true }
def SpeakSyncUptoSaid : Prop := speakSyncUptoRow.holds Tryz.pinned (OpenSpec.upto speakSyncSpec)

/-- 'drumlinelaw17.SpeakHeard', WHERE WHAT IT READS IS OF BULK AT MOST 1048576: true; the input reads as it did. -/
def speakHeardUptoRow : OpenClaim := { program := "ytpcnjabfiahhhaagreatdoor", sum := "da3d5047240b7d3ee4445ca9fbc12acf4159fa918f64359bf49453d914eb54a7", func := "drumline/drumlinelaw17.SpeakHeard", spec := "speakHeard", inPlace := ["internal/reflectlite.ValueOf", "(internal/reflectlite.Value).Type", "(internal/reflectlite.Value).IsNil", "internal/reflectlite.TypeOf", "(internal/reflectlite.Value).Elem", "(internal/reflectlite.Value).Set"], unfollowed := true, recurses := true, named := ["drumline/bounds.out", "errors.errorType"], apart := false, laid := [("errors.errorType", laid_errors_errorType), ("drumline/bounds.out", laid_drumline_bounds_out)], narrowed := true }
def SpeakHeardUptoSaid : Prop := speakHeardUptoRow.holds Tryz.pinned (OpenSpec.upto speakHeardSpec)

/-- 'drumlinelaw17.SpeakMessages', WHERE WHAT IT READS IS OF BULK AT MOST 1048576: true; the input reads as it did. -/
def speakMessagesUptoRow : OpenClaim := { program := "ytpcnjabfiahhhaagreatdoor", sum := "da3d5047240b7d3ee4445ca9fbc12acf4159fa918f64359bf49453d914eb54a7", func := "drumline/drumlinelaw17.SpeakMessages", spec := "speakMessages", inPlace := ["internal/reflectlite.ValueOf", "(internal/reflectlite.Value).Type", "(internal/reflectlite.Value).IsNil", "internal/reflectlite.TypeOf", "(internal/reflectlite.Value).Elem", "(internal/reflectlite.Value).Set"], unfollowed := true, recurses := true, named := ["drumline/bounds.out", "errors.errorType"], apart := false, laid := [("errors.errorType", laid_errors_errorType), ("drumline/bounds.out", laid_drumline_bounds_out)], narrowed := true }
def SpeakMessagesUptoSaid : Prop := speakMessagesUptoRow.holds Tryz.pinned (OpenSpec.upto speakMessagesSpec)

/-- 'drumlinelaw17.SpeakOffers', WHERE WHAT IT READS IS OF BULK AT MOST 1048576: true; the input reads as it did. -/
def speakOffersUptoRow : OpenClaim := { program := "ytpcnjabfiahhhaagreatdoor", sum := "da3d5047240b7d3ee4445ca9fbc12acf4159fa918f64359bf49453d914eb54a7", func := "drumline/drumlinelaw17.SpeakOffers", spec := "speakOffers", inPlace := ["internal/reflectlite.ValueOf", "(internal/reflectlite.Value).Type", "(internal/reflectlite.Value).IsNil", "internal/reflectlite.TypeOf", "(internal/reflectlite.Value).Elem", "(internal/reflectlite.Value).Set"], unfollowed := true, recurses := true, named := ["drumline/bounds.out", "errors.errorType"], apart := false, laid := [("errors.errorType", laid_errors_errorType), ("drumline/bounds.out", laid_drumline_bounds_out)], narrowed := true }
def SpeakOffersUptoSaid : Prop := speakOffersUptoRow.holds Tryz.pinned (OpenSpec.upto speakOffersSpec)

/-- 'drumlinelaw17.SpeakPort', WHERE WHAT IT READS IS OF BULK AT MOST 1048576: true; the input reads as it did. -/
def speakPortUptoRow : OpenClaim := { program := "ytpcnjabfiahhhaagreatdoor", sum := "da3d5047240b7d3ee4445ca9fbc12acf4159fa918f64359bf49453d914eb54a7", func := "drumline/drumlinelaw17.SpeakPort", spec := "speakPort", inPlace := ["internal/reflectlite.ValueOf", "(internal/reflectlite.Value).Type", "(internal/reflectlite.Value).IsNil", "internal/reflectlite.TypeOf", "(internal/reflectlite.Value).Elem", "(internal/reflectlite.Value).Set"], unfollowed := true, recurses := true, named := ["drumline/bounds.out", "errors.errorType"], apart := false, laid := [("errors.errorType", laid_errors_errorType), ("drumline/bounds.out", laid_drumline_bounds_out)], narrowed := true }
def SpeakPortUptoSaid : Prop := speakPortUptoRow.holds Tryz.pinned (OpenSpec.upto speakPortSpec)

/-- 'drumlinelaw17.SpeakAlign', WHERE WHAT IT READS IS OF BULK AT MOST 1048576: true; the input reads as it did. -/
def speakAlignUptoRow : OpenClaim := { program := "ytpcnjabfiahhhaagreatdoor", sum := "da3d5047240b7d3ee4445ca9fbc12acf4159fa918f64359bf49453d914eb54a7", func := "drumline/drumlinelaw17.SpeakAlign", spec := "speakAlign", inPlace := ["internal/reflectlite.ValueOf", "(internal/reflectlite.Value).Type", "(internal/reflectlite.Value).IsNil", "internal/reflectlite.TypeOf", "(internal/reflectlite.Value).Elem", "(internal/reflectlite.Value).Set"], unfollowed := true, recurses := true, named := ["drumline/bounds.out", "errors.errorType"], apart := false, laid := [("errors.errorType", laid_errors_errorType), ("drumline/bounds.out", laid_drumline_bounds_out)], narrowed := true }
def SpeakAlignUptoSaid : Prop := speakAlignUptoRow.holds Tryz.pinned (OpenSpec.upto speakAlignSpec)

/-- 'drumlinelaw11.AirRaw', WHERE WHAT IT READS IS OF BULK AT MOST 1048576: true; the input reads as it did. -/
def airRawUptoRow : OpenClaim := { program := "ytpcnjabfiahhhaagreatdoor", sum := "da3d5047240b7d3ee4445ca9fbc12acf4159fa918f64359bf49453d914eb54a7", func := "drumline/drumlinelaw11.AirRaw", spec := "airRaw", inPlace := ["internal/reflectlite.ValueOf", "(internal/reflectlite.Value).Type", "(internal/reflectlite.Value).IsNil", "internal/reflectlite.TypeOf", "(internal/reflectlite.Value).Elem", "(internal/reflectlite.Value).Set"], unfollowed := true, recurses := true, named := ["drumline/bounds.out", "errors.errorType"], apart := false, laid := [("errors.errorType", laid_errors_errorType), ("drumline/bounds.out", laid_drumline_bounds_out)], narrowed := true }
def AirRawUptoSaid : Prop := airRawUptoRow.holds Tryz.pinned (OpenSpec.upto airRawSpec)

/-- 'drumlinelaw11.AirHeard', WHERE WHAT IT READS IS OF BULK AT MOST 1048576: true; the input reads as it did. -/
def airHeardUptoRow : OpenClaim := { program := "ytpcnjabfiahhhaagreatdoor", sum := "da3d5047240b7d3ee4445ca9fbc12acf4159fa918f64359bf49453d914eb54a7", func := "drumline/drumlinelaw11.AirHeard", spec := "airHeard", inPlace := ["internal/reflectlite.ValueOf", "(internal/reflectlite.Value).Type", "(internal/reflectlite.Value).IsNil", "internal/reflectlite.TypeOf", "(internal/reflectlite.Value).Elem", "(internal/reflectlite.Value).Set"], unfollowed := true, recurses := true, named := ["drumline/bounds.out", "errors.errorType"], apart := false, laid := [("errors.errorType", laid_errors_errorType), ("drumline/bounds.out", laid_drumline_bounds_out)], narrowed := true }
def AirHeardUptoSaid : Prop := airHeardUptoRow.holds Tryz.pinned (OpenSpec.upto airHeardSpec)

/-- 'drumlinelaw11.AirOrder', WHERE WHAT IT READS IS OF BULK AT MOST 1048576: true; the input reads as it did. -/
def airOrderUptoRow : OpenClaim := { program := "ytpcnjabfiahhhaagreatdoor", sum := "da3d5047240b7d3ee4445ca9fbc12acf4159fa918f64359bf49453d914eb54a7", func := "drumline/drumlinelaw11.AirOrder", spec := "airOrder", inPlace := ["internal/reflectlite.ValueOf", "(internal/reflectlite.Value).Type", "(internal/reflectlite.Value).IsNil", "internal/reflectlite.TypeOf", "(internal/reflectlite.Value).Elem", "(internal/reflectlite.Value).Set"], unfollowed := true, recurses := true, named := ["drumline/bounds.out", "errors.errorType"], apart := false, laid := [("errors.errorType", laid_errors_errorType), ("drumline/bounds.out", laid_drumline_bounds_out)], narrowed := true }
def AirOrderUptoSaid : Prop := airOrderUptoRow.holds Tryz.pinned (OpenSpec.upto airOrderSpec)

/-- 'drumlinelaw11.AirLost', WHERE WHAT IT READS IS OF BULK AT MOST 1048576: true; the input reads as it did. -/
def airLostUptoRow : OpenClaim := { program := "ytpcnjabfiahhhaagreatdoor", sum := "da3d5047240b7d3ee4445ca9fbc12acf4159fa918f64359bf49453d914eb54a7", func := "drumline/drumlinelaw11.AirLost", spec := "airLost", inPlace := ["internal/reflectlite.ValueOf", "(internal/reflectlite.Value).Type", "(internal/reflectlite.Value).IsNil", "internal/reflectlite.TypeOf", "(internal/reflectlite.Value).Elem", "(internal/reflectlite.Value).Set"], unfollowed := true, recurses := true, named := ["drumline/bounds.out", "errors.errorType"], apart := false, laid := [("errors.errorType", laid_errors_errorType), ("drumline/bounds.out", laid_drumline_bounds_out)], narrowed := true }
def AirLostUptoSaid : Prop := airLostUptoRow.holds Tryz.pinned (OpenSpec.upto airLostSpec)

/-- 'drumlinelaw11.AirFits', WHERE WHAT IT READS IS OF BULK AT MOST 1048576: true; the input reads as it did. -/
def airFitsUptoRow : OpenClaim := { program := "ytpcnjabfiahhhaagreatdoor", sum := "da3d5047240b7d3ee4445ca9fbc12acf4159fa918f64359bf49453d914eb54a7", func := "drumline/drumlinelaw11.AirFits", spec := "airFits", inPlace := ["internal/reflectlite.ValueOf", "(internal/reflectlite.Value).Type", "(internal/reflectlite.Value).IsNil", "internal/reflectlite.TypeOf", "(internal/reflectlite.Value).Elem", "(internal/reflectlite.Value).Set"], unfollowed := true, recurses := true, named := ["drumline/bounds.out", "errors.errorType"], apart := false, laid := [("errors.errorType", laid_errors_errorType), ("drumline/bounds.out", laid_drumline_bounds_out)], narrowed := true }
def AirFitsUptoSaid : Prop := airFitsUptoRow.holds Tryz.pinned (OpenSpec.upto airFitsSpec)

end Rows
end Go.Proofs.YtpcnjabfiahhhaaGreatDoor
