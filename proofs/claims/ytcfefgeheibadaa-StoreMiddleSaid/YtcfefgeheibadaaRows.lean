/-
  No cell of these rows narrows 'for every input' (looked for: loops, veiled, ifaces, maps, wideKeys, modest, calm, conditions, laid).
  DERIVED. THE GIVEN ROWS OF THIS SEAT. 9 by the template 'for every input the law returns true; each argument reads behind the call as it read before'; 0 by the template 'total and deterministic' (their statements: YtcfefgeheibadaaTotals.lean).
  GIVEN WITH THE SEED: the statements are not yours to turn. If you find one false, say at which input.
  Laid BY PROGRAM, IN A SANDBOX (cutbox-rows.mjs): the forced cells as the released guide's own fill.sh prints them over the translation 4999a64f125f3cb2… (all of the seat's roots in one cut). By AI agents, Wed Nov 11 2026. No macro, syntax, notation, axiom, sorry.
-/
import Derived.Test.YtcfefgeheibadaaChecked
import GoSem.Claim
import GoSem.ClaimJoined
import GoSem.ClaimMapViews
import Derived.JoinedTies
import Derived.KernelRfl
namespace Go.Proofs.Ytcfefgeheibadaa
/- THE CELL 'sum', in the pinned program and in every row, IS THE sha256 OF THE DUMP (.gsa) THAT YtcfefgeheibadaaProg.lean LOADS. Nothing in Lean hashes anything: it is a label: what it is worth is what the hold of that sum in a sandbox is worth. -/
noncomputable def Try.pinned : Pinned := { name := "ytcfefgeheibadaa", sum := "4999a64f125f3cb2a0914bd874203b33f3160e83e3b766cfcfcef9175ec5b52e", checked := Try.checked }
namespace Rows
def none {H : Type} : Left H := { results := [], args := [] }

/-- 'drumlinelaw22.MarkLogs': WHATEVER THE INPUT: true; the input reads as it did. -/
def markLogsSpec : ChangeSpec := { name := "markLogs", fn := fun _ => fun
  | [d1, d2, d3] => { results := [.lit (.bool true)], args := [d1, d2, d3] }
  | _ => none }
def markLogsRow : OpenClaim := { program := "ytcfefgeheibadaa", sum := "4999a64f125f3cb2a0914bd874203b33f3160e83e3b766cfcfcef9175ec5b52e", func := "drumline/drumlinelaw22.MarkLogs", spec := "markLogs", apart := false }
def MarkLogsSaid : Prop := markLogsRow.holds Try.pinned (OpenSpec.ofChange markLogsSpec)

/-- ITS FALSE NEIGHBOUR: 'it returns false'. Refute it at one input. -/
def markLogsWrong : ChangeSpec := { name := "markLogs", fn := fun _ => fun
  | [d1, d2, d3] => { results := [.lit (.bool false)], args := [d1, d2, d3] }
  | _ => none }
def MarkLogsWrongFalsely : Prop := markLogsRow.holds Try.pinned (OpenSpec.ofChange markLogsWrong)

/-- 'drumlinelaw22.MarkOnce': WHATEVER THE INPUT: true; the input reads as it did. -/
def markOnceSpec : ChangeSpec := { name := "markOnce", fn := fun _ => fun
  | [d1, d2] => { results := [.lit (.bool true)], args := [d1, d2] }
  | _ => none }
def markOnceRow : OpenClaim := { program := "ytcfefgeheibadaa", sum := "4999a64f125f3cb2a0914bd874203b33f3160e83e3b766cfcfcef9175ec5b52e", func := "drumline/drumlinelaw22.MarkOnce", spec := "markOnce", apart := false }
def MarkOnceSaid : Prop := markOnceRow.holds Try.pinned (OpenSpec.ofChange markOnceSpec)

/-- ITS FALSE NEIGHBOUR: 'it returns false'. Refute it at one input. -/
def markOnceWrong : ChangeSpec := { name := "markOnce", fn := fun _ => fun
  | [d1, d2] => { results := [.lit (.bool false)], args := [d1, d2] }
  | _ => none }
def MarkOnceWrongFalsely : Prop := markOnceRow.holds Try.pinned (OpenSpec.ofChange markOnceWrong)

/-- 'drumlinelaw22.MarkForks': WHATEVER THE INPUT: true; the input reads as it did. -/
def markForksSpec : ChangeSpec := { name := "markForks", fn := fun _ => fun
  | [d1, d2, d3] => { results := [.lit (.bool true)], args := [d1, d2, d3] }
  | _ => none }
def markForksRow : OpenClaim := { program := "ytcfefgeheibadaa", sum := "4999a64f125f3cb2a0914bd874203b33f3160e83e3b766cfcfcef9175ec5b52e", func := "drumline/drumlinelaw22.MarkForks", spec := "markForks", apart := false }
def MarkForksSaid : Prop := markForksRow.holds Try.pinned (OpenSpec.ofChange markForksSpec)

/-- ITS FALSE NEIGHBOUR: 'it returns false'. Refute it at one input. -/
def markForksWrong : ChangeSpec := { name := "markForks", fn := fun _ => fun
  | [d1, d2, d3] => { results := [.lit (.bool false)], args := [d1, d2, d3] }
  | _ => none }
def MarkForksWrongFalsely : Prop := markForksRow.holds Try.pinned (OpenSpec.ofChange markForksWrong)

/-- 'drumlinelaw22.MarkCounts': WHATEVER THE INPUT: true; the input reads as it did. -/
def markCountsSpec : ChangeSpec := { name := "markCounts", fn := fun _ => fun
  | [d1, d2, d3] => { results := [.lit (.bool true)], args := [d1, d2, d3] }
  | _ => none }
def markCountsRow : OpenClaim := { program := "ytcfefgeheibadaa", sum := "4999a64f125f3cb2a0914bd874203b33f3160e83e3b766cfcfcef9175ec5b52e", func := "drumline/drumlinelaw22.MarkCounts", spec := "markCounts", apart := false }
def MarkCountsSaid : Prop := markCountsRow.holds Try.pinned (OpenSpec.ofChange markCountsSpec)

/-- ITS FALSE NEIGHBOUR: 'it returns false'. Refute it at one input. -/
def markCountsWrong : ChangeSpec := { name := "markCounts", fn := fun _ => fun
  | [d1, d2, d3] => { results := [.lit (.bool false)], args := [d1, d2, d3] }
  | _ => none }
def MarkCountsWrongFalsely : Prop := markCountsRow.holds Try.pinned (OpenSpec.ofChange markCountsWrong)

/-- 'drumlinelaw21.StoreOrder': WHATEVER THE INPUT: true; the input reads as it did. -/
def storeOrderSpec : ChangeSpec := { name := "storeOrder", fn := fun _ => fun
  | [d1, d2, d3] => { results := [.lit (.bool true)], args := [d1, d2, d3] }
  | _ => none }
def storeOrderRow : OpenClaim := { program := "ytcfefgeheibadaa", sum := "4999a64f125f3cb2a0914bd874203b33f3160e83e3b766cfcfcef9175ec5b52e", func := "drumline/drumlinelaw21.StoreOrder", spec := "storeOrder", apart := false }
def StoreOrderSaid : Prop := storeOrderRow.holds Try.pinned (OpenSpec.ofChange storeOrderSpec)

/-- ITS FALSE NEIGHBOUR: 'it returns false'. Refute it at one input. -/
def storeOrderWrong : ChangeSpec := { name := "storeOrder", fn := fun _ => fun
  | [d1, d2, d3] => { results := [.lit (.bool false)], args := [d1, d2, d3] }
  | _ => none }
def StoreOrderWrongFalsely : Prop := storeOrderRow.holds Try.pinned (OpenSpec.ofChange storeOrderWrong)

/-- 'drumlinelaw21.StoreMiddle': WHATEVER THE INPUT: true; the input reads as it did. -/
def storeMiddleSpec : ChangeSpec := { name := "storeMiddle", fn := fun _ => fun
  | [d1, d2] => { results := [.lit (.bool true)], args := [d1, d2] }
  | _ => none }
def storeMiddleRow : OpenClaim := { program := "ytcfefgeheibadaa", sum := "4999a64f125f3cb2a0914bd874203b33f3160e83e3b766cfcfcef9175ec5b52e", func := "drumline/drumlinelaw21.StoreMiddle", spec := "storeMiddle", apart := false }
def StoreMiddleSaid : Prop := storeMiddleRow.holds Try.pinned (OpenSpec.ofChange storeMiddleSpec)

/-- ITS FALSE NEIGHBOUR: 'it returns false'. Refute it at one input. -/
def storeMiddleWrong : ChangeSpec := { name := "storeMiddle", fn := fun _ => fun
  | [d1, d2] => { results := [.lit (.bool false)], args := [d1, d2] }
  | _ => none }
def StoreMiddleWrongFalsely : Prop := storeMiddleRow.holds Try.pinned (OpenSpec.ofChange storeMiddleWrong)

/-- 'drumlinelaw22.MarkRises': WHATEVER THE INPUT: true; the input reads as it did. -/
def markRisesSpec : ChangeSpec := { name := "markRises", fn := fun _ => fun
  | [d1, d2] => { results := [.lit (.bool true)], args := [d1, d2] }
  | _ => none }
def markRisesRow : OpenClaim := { program := "ytcfefgeheibadaa", sum := "4999a64f125f3cb2a0914bd874203b33f3160e83e3b766cfcfcef9175ec5b52e", func := "drumline/drumlinelaw22.MarkRises", spec := "markRises", apart := false }
def MarkRisesSaid : Prop := markRisesRow.holds Try.pinned (OpenSpec.ofChange markRisesSpec)

/-- ITS FALSE NEIGHBOUR: 'it returns false'. Refute it at one input. -/
def markRisesWrong : ChangeSpec := { name := "markRises", fn := fun _ => fun
  | [d1, d2] => { results := [.lit (.bool false)], args := [d1, d2] }
  | _ => none }
def MarkRisesWrongFalsely : Prop := markRisesRow.holds Try.pinned (OpenSpec.ofChange markRisesWrong)

/-- 'drumlinelaw21.StoreForks': WHATEVER THE INPUT: true; the input reads as it did. -/
def storeForksSpec : ChangeSpec := { name := "storeForks", fn := fun _ => fun
  | [d1, d2, d3, d4] => { results := [.lit (.bool true)], args := [d1, d2, d3, d4] }
  | _ => none }
def storeForksRow : OpenClaim := { program := "ytcfefgeheibadaa", sum := "4999a64f125f3cb2a0914bd874203b33f3160e83e3b766cfcfcef9175ec5b52e", func := "drumline/drumlinelaw21.StoreForks", spec := "storeForks", apart := false }
def StoreForksSaid : Prop := storeForksRow.holds Try.pinned (OpenSpec.ofChange storeForksSpec)

/-- ITS FALSE NEIGHBOUR: 'it returns false'. Refute it at one input. -/
def storeForksWrong : ChangeSpec := { name := "storeForks", fn := fun _ => fun
  | [d1, d2, d3, d4] => { results := [.lit (.bool false)], args := [d1, d2, d3, d4] }
  | _ => none }
def StoreForksWrongFalsely : Prop := storeForksRow.holds Try.pinned (OpenSpec.ofChange storeForksWrong)

/-- 'drumlinelaw21.StorePlays': WHATEVER THE INPUT: true; the input reads as it did. -/
def storePlaysSpec : ChangeSpec := { name := "storePlays", fn := fun _ => fun
  | [d1, d2] => { results := [.lit (.bool true)], args := [d1, d2] }
  | _ => none }
def storePlaysRow : OpenClaim := { program := "ytcfefgeheibadaa", sum := "4999a64f125f3cb2a0914bd874203b33f3160e83e3b766cfcfcef9175ec5b52e", func := "drumline/drumlinelaw21.StorePlays", spec := "storePlays", apart := false }
def StorePlaysSaid : Prop := storePlaysRow.holds Try.pinned (OpenSpec.ofChange storePlaysSpec)

/-- ITS FALSE NEIGHBOUR: 'it returns false'. Refute it at one input. -/
def storePlaysWrong : ChangeSpec := { name := "storePlays", fn := fun _ => fun
  | [d1, d2] => { results := [.lit (.bool false)], args := [d1, d2] }
  | _ => none }
def StorePlaysWrongFalsely : Prop := storePlaysRow.holds Try.pinned (OpenSpec.ofChange storePlaysWrong)

/- THE SECOND FORM. 'bulk': how many values and letters a reading holds, each counted each time it is reached (what is shared counts as often as it is met; a slice's spare places count too). A statement '..UptoSaid' is the law's where the arguments, and the package variables that the reading takes, are together of bulk at most 1048576: NARROWER than '..Said'. Prove '..Said' where nothing that the law and all that it calls make is longer than what came in: it says more and counts as full. Else prove '..UptoSaid'. A law counts once. -/
mutual
def uptoBulk {H : Type} : DataW H → Nat
  | .lit (.string bytes) => bytes.length + 1
  | .lit _ => 1
  | .nil => 1
  | .ptr d => uptoBulk d + 1
  | .slice elems spare => uptoBulkAll elems + uptoBulkAll spare + 1
  | .agg parts => uptoBulkAll parts + 1
  | .iface _ d => uptoBulk d + 1
  | .map entries => uptoBulkEntries entries + 1
  | .held _ => 1
def uptoBulkAll {H : Type} : List (DataW H) → Nat
  | [] => 0
  | d :: r => uptoBulk d + uptoBulkAll r
def uptoBulkEntries {H : Type} : List (Lit × DataW H) → Nat
  | [] => 0
  | x :: r => uptoBulkEntry x + uptoBulkEntries r
def uptoBulkEntry {H : Type} : Lit × DataW H → Nat
  | (.string bytes, d) => bytes.length + uptoBulk d + 1
  | (_, d) => uptoBulk d + 1
 end
def uptoSmall : (H : Type) → List (DataW H) → Bool := fun _ ds => decide (uptoBulkAll ds ≤ 1048576)
def OpenSpec.upto (s : _root_.Go.ChangeSpec) : _root_.Go.OpenSpec := { _root_.Go.OpenSpec.ofChange s with cond := some uptoSmall }

/-- 'drumlinelaw22.MarkLogs', WHERE WHAT IT READS IS OF BULK AT MOST 1048576: true; the input reads as it did. -/
def markLogsUptoRow : OpenClaim := { program := "ytcfefgeheibadaa", sum := "4999a64f125f3cb2a0914bd874203b33f3160e83e3b766cfcfcef9175ec5b52e", func := "drumline/drumlinelaw22.MarkLogs", spec := "markLogs", apart := false, narrowed := true }
def MarkLogsUptoSaid : Prop := markLogsUptoRow.holds Try.pinned (OpenSpec.upto markLogsSpec)

/-- 'drumlinelaw22.MarkOnce', WHERE WHAT IT READS IS OF BULK AT MOST 1048576: true; the input reads as it did. -/
def markOnceUptoRow : OpenClaim := { program := "ytcfefgeheibadaa", sum := "4999a64f125f3cb2a0914bd874203b33f3160e83e3b766cfcfcef9175ec5b52e", func := "drumline/drumlinelaw22.MarkOnce", spec := "markOnce", apart := false, narrowed := true }
def MarkOnceUptoSaid : Prop := markOnceUptoRow.holds Try.pinned (OpenSpec.upto markOnceSpec)

/-- 'drumlinelaw22.MarkForks', WHERE WHAT IT READS IS OF BULK AT MOST 1048576: true; the input reads as it did. -/
def markForksUptoRow : OpenClaim := { program := "ytcfefgeheibadaa", sum := "4999a64f125f3cb2a0914bd874203b33f3160e83e3b766cfcfcef9175ec5b52e", func := "drumline/drumlinelaw22.MarkForks", spec := "markForks", apart := false, narrowed := true }
def MarkForksUptoSaid : Prop := markForksUptoRow.holds Try.pinned (OpenSpec.upto markForksSpec)

/-- 'drumlinelaw22.MarkCounts', WHERE WHAT IT READS IS OF BULK AT MOST 1048576: true; the input reads as it did. -/
def markCountsUptoRow : OpenClaim := { program := "ytcfefgeheibadaa", sum := "4999a64f125f3cb2a0914bd874203b33f3160e83e3b766cfcfcef9175ec5b52e", func := "drumline/drumlinelaw22.MarkCounts", spec := "markCounts", apart := false, narrowed := true }
def MarkCountsUptoSaid : Prop := markCountsUptoRow.holds Try.pinned (OpenSpec.upto markCountsSpec)

/-- 'drumlinelaw21.StoreOrder', WHERE WHAT IT READS IS OF BULK AT MOST 1048576: true; the input reads as it did. -/
def storeOrderUptoRow : OpenClaim := { program := "ytcfefgeheibadaa", sum := "4999a64f125f3cb2a0914bd874203b33f3160e83e3b766cfcfcef9175ec5b52e", func := "drumline/drumlinelaw21.StoreOrder", spec := "storeOrder", apart := false, narrowed := true }
def StoreOrderUptoSaid : Prop := storeOrderUptoRow.holds Try.pinned (OpenSpec.upto storeOrderSpec)

/-- 'drumlinelaw21.StoreMiddle', WHERE WHAT IT READS IS OF BULK AT MOST 1048576: true; the input reads as it did. -/
def storeMiddleUptoRow : OpenClaim := { program := "ytcfefgeheibadaa", sum := "4999a64f125f3cb2a0914bd874203b33f3160e83e3b766cfcfcef9175ec5b52e", func := "drumline/drumlinelaw21.StoreMiddle", spec := "storeMiddle", apart := false, narrowed := true }
def StoreMiddleUptoSaid : Prop := storeMiddleUptoRow.holds Try.pinned (OpenSpec.upto storeMiddleSpec)

/-- 'drumlinelaw22.MarkRises', WHERE WHAT IT READS IS OF BULK AT MOST 1048576: true; the input reads as it did. -/
def markRisesUptoRow : OpenClaim := { program := "ytcfefgeheibadaa", sum := "4999a64f125f3cb2a0914bd874203b33f3160e83e3b766cfcfcef9175ec5b52e", func := "drumline/drumlinelaw22.MarkRises", spec := "markRises", apart := false, narrowed := true }
def MarkRisesUptoSaid : Prop := markRisesUptoRow.holds Try.pinned (OpenSpec.upto markRisesSpec)

/-- 'drumlinelaw21.StoreForks', WHERE WHAT IT READS IS OF BULK AT MOST 1048576: true; the input reads as it did. -/
def storeForksUptoRow : OpenClaim := { program := "ytcfefgeheibadaa", sum := "4999a64f125f3cb2a0914bd874203b33f3160e83e3b766cfcfcef9175ec5b52e", func := "drumline/drumlinelaw21.StoreForks", spec := "storeForks", apart := false, narrowed := true }
def StoreForksUptoSaid : Prop := storeForksUptoRow.holds Try.pinned (OpenSpec.upto storeForksSpec)

/-- 'drumlinelaw21.StorePlays', WHERE WHAT IT READS IS OF BULK AT MOST 1048576: true; the input reads as it did. -/
def storePlaysUptoRow : OpenClaim := { program := "ytcfefgeheibadaa", sum := "4999a64f125f3cb2a0914bd874203b33f3160e83e3b766cfcfcef9175ec5b52e", func := "drumline/drumlinelaw21.StorePlays", spec := "storePlays", apart := false, narrowed := true }
def StorePlaysUptoSaid : Prop := storePlaysUptoRow.holds Try.pinned (OpenSpec.upto storePlaysSpec)

end Rows
end Go.Proofs.Ytcfefgeheibadaa
