/-
  The document's example, reckoned out.
-/
import Derived.Test.YtcfefgeheibadaaMarkD
import Derived.KernelRfl
namespace Go.Abs
open Go.Proofs.Ytcfefgeheibadaa
set_option maxRecDepth 100000 in
theorem alive_s {s : Option Nat} {H : Heap} : Call tab s f_law22_alive [] H = some (.bool true, H) := Call_iff.2 ⟨8, by kernel_rfl⟩
end Go.Abs
