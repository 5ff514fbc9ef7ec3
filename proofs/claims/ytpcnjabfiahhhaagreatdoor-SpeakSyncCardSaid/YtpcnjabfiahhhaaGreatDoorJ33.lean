/- A part of the proof of RowSpeakSync: lemmas alone, without conditions. -/
import Derived.Test.YtpcnjabfiahhhaaGreatDoorJ32
import Derived.Test.YtpcnjabfiahhhaaGreatDoorJ31
set_option linter.all false
namespace Go.Abs
open Go.Proofs.YtpcnjabfiahhhaaGreatDoor
attribute [local irreducible] enL R RR gT fU rC gG gU qS apply fW gZ bQ cC fB bN iN bK bG eS cV lA dU V.rb V.rbL
theorem dL {β : Type} {T : Tab} {s : Option Nat} {c : C} {e : aX} {H : aB} {κ : nN → Option β} {Y : Option β → Prop} {y : β} (n : Nat) (h : (yC (r6 T n) s n c e H).bind κ = some y) (k : Ev (some y) Y) : Ev (R T s c e H κ) Y := by
 obtain ⟨o, h1, h2⟩ := Option.bind_eq_some_iff.1 h
 refine nT n h1 ?_
 rw [h2]; exact k
structure Nums where
 cycle : Int
 window : Int
 drift : Int
 ages : Int
 lost : Int
 listen : Int
 span : Int
def aBi : Nat → List Part
 | 0 => [⟨5, 1⟩]
 | 1 => [⟨6, 1⟩, ⟨6, 1⟩]
 | 2 => [⟨6, 1⟩, ⟨8, 1⟩, ⟨6, 1⟩]
 | 3 => [⟨8, 1⟩, ⟨8, 1⟩, ⟨8, 1⟩]
 | 4 => [⟨8, 1⟩, ⟨6, 1⟩, ⟨6, 1⟩]
 | 5 => [⟨6, 1⟩, ⟨8, 1⟩, ⟨8, 1⟩, ⟨6, 1⟩]
 | 6 => [⟨8, 1⟩, ⟨8, 1⟩, ⟨8, 1⟩, ⟨8, 1⟩]
 | 7 => [⟨10, 1⟩, ⟨6, 1⟩, ⟨6, 1⟩, ⟨6, 1⟩]
 | _ => []
def aTe : Nat → List Link
 | 0 => []
 | 1 => [⟨0, 1, 0, 1, 0, 1⟩]
 | 2 => [⟨0, 1, 0, 1, 0, 1⟩, ⟨1, 2, 2, 3, 0, 1⟩]
 | 3 => [⟨0, 1, 0, 1, 0, 1⟩, ⟨1, 2, 2, 3, 0, 1⟩, ⟨0, 2, 2, 3, 2, 3⟩]
 | 4 => [⟨0, 1, 0, 1, 0, 1⟩, ⟨0, 2, 2, 3, 0, 1⟩]
 | 5 => [⟨0, 1, 0, 1, 0, 1⟩, ⟨1, 2, 2, 3, 0, 1⟩, ⟨2, 3, 2, 3, 0, 1⟩]
 | 6 => [⟨0, 1, 0, 1, 0, 1⟩, ⟨1, 2, 2, 3, 0, 1⟩, ⟨2, 3, 2, 3, 0, 1⟩, ⟨0, 3, 2, 3, 2, 3⟩]
 | 7 => [⟨0, 1, 0, 1, 0, 1⟩, ⟨0, 2, 2, 3, 0, 1⟩, ⟨0, 3, 4, 5, 0, 1⟩]
 | _ => []
def aG : Nat → Nat → List Port
 | 0, 0 => []
 | 1, 0 => [⟨0, 0, 0, 0⟩, ⟨1, 0, 1, 0⟩]
 | 1, 1 => [⟨0, 0, 0, 1⟩, ⟨1, 0, 1, 1⟩]
 | 2, 0 => [⟨0, 0, 0, 0⟩, ⟨1, 0, 1, 0⟩]
 | 2, 1 => [⟨0, 0, 0, 1⟩, ⟨1, 0, 1, 1⟩, ⟨2, 1, 0, 0⟩, ⟨3, 1, 1, 0⟩]
 | 2, 2 => [⟨0, 1, 0, 1⟩, ⟨1, 1, 1, 1⟩]
 | 3, 0 => [⟨0, 0, 0, 0⟩, ⟨1, 0, 1, 0⟩, ⟨2, 2, 0, 0⟩, ⟨3, 2, 1, 0⟩]
 | 3, 1 => [⟨0, 0, 0, 1⟩, ⟨1, 0, 1, 1⟩, ⟨2, 1, 0, 0⟩, ⟨3, 1, 1, 0⟩]
 | 3, 2 => [⟨0, 1, 0, 1⟩, ⟨1, 1, 1, 1⟩, ⟨2, 2, 0, 1⟩, ⟨3, 2, 1, 1⟩]
 | 4, 0 => [⟨0, 0, 0, 0⟩, ⟨1, 0, 1, 0⟩, ⟨2, 1, 0, 0⟩, ⟨3, 1, 1, 0⟩]
 | 4, 1 => [⟨0, 0, 0, 1⟩, ⟨1, 0, 1, 1⟩]
 | 4, 2 => [⟨0, 1, 0, 1⟩, ⟨1, 1, 1, 1⟩]
 | 5, 0 => [⟨0, 0, 0, 0⟩, ⟨1, 0, 1, 0⟩]
 | 5, 1 => [⟨0, 0, 0, 1⟩, ⟨1, 0, 1, 1⟩, ⟨2, 1, 0, 0⟩, ⟨3, 1, 1, 0⟩]
 | 5, 2 => [⟨0, 1, 0, 1⟩, ⟨1, 1, 1, 1⟩, ⟨2, 2, 0, 0⟩, ⟨3, 2, 1, 0⟩]
 | 5, 3 => [⟨0, 2, 0, 1⟩, ⟨1, 2, 1, 1⟩]
 | 6, 0 => [⟨0, 0, 0, 0⟩, ⟨1, 0, 1, 0⟩, ⟨2, 3, 0, 0⟩, ⟨3, 3, 1, 0⟩]
 | 6, 1 => [⟨0, 0, 0, 1⟩, ⟨1, 0, 1, 1⟩, ⟨2, 1, 0, 0⟩, ⟨3, 1, 1, 0⟩]
 | 6, 2 => [⟨0, 1, 0, 1⟩, ⟨1, 1, 1, 1⟩, ⟨2, 2, 0, 0⟩, ⟨3, 2, 1, 0⟩]
 | 6, 3 => [⟨0, 2, 0, 1⟩, ⟨1, 2, 1, 1⟩, ⟨2, 3, 0, 1⟩, ⟨3, 3, 1, 1⟩]
 | 7, 0 => [⟨0, 0, 0, 0⟩, ⟨1, 0, 1, 0⟩, ⟨2, 1, 0, 0⟩, ⟨3, 1, 1, 0⟩, ⟨4, 2, 0, 0⟩, ⟨5, 2, 1, 0⟩]
 | 7, 1 => [⟨0, 0, 0, 1⟩, ⟨1, 0, 1, 1⟩]
 | 7, 2 => [⟨0, 1, 0, 1⟩, ⟨1, 1, 1, 1⟩]
 | 7, 3 => [⟨0, 2, 0, 1⟩, ⟨1, 2, 1, 1⟩]
 | _, _ => []
def aN : Nat → Nat → List Slot
 | 0, 0 => [⟨2, 0, 60⟩, ⟨2, 1, 160⟩, ⟨2, 2, 260⟩, ⟨2, 3, 360⟩, ⟨2, 4, 460⟩]
 | 1, 0 => [⟨3, 0, 60⟩, ⟨4, 0, 160⟩, ⟨3, 1, 260⟩, ⟨4, 1, 360⟩, ⟨2, 0, 460⟩, ⟨2, 1, 560⟩, ⟨2, 2, 660⟩, ⟨2, 3, 760⟩, ⟨2, 4, 860⟩, ⟨2, 5, 960⟩, ⟨5, 0, 1060⟩, ⟨5, 1, 1160⟩]
 | 1, 1 => [⟨3, 0, 60⟩, ⟨4, 0, 160⟩, ⟨3, 1, 260⟩, ⟨4, 1, 360⟩, ⟨2, 0, 460⟩, ⟨2, 1, 560⟩, ⟨2, 2, 660⟩, ⟨2, 3, 760⟩, ⟨2, 4, 860⟩, ⟨2, 5, 960⟩, ⟨5, 0, 1060⟩, ⟨5, 1, 1160⟩]
 | 2, 0 => [⟨3, 0, 60⟩, ⟨4, 0, 160⟩, ⟨3, 1, 260⟩, ⟨4, 1, 360⟩, ⟨2, 0, 460⟩, ⟨2, 1, 560⟩, ⟨2, 2, 660⟩, ⟨2, 3, 760⟩, ⟨2, 4, 860⟩, ⟨2, 5, 960⟩, ⟨5, 0, 1060⟩, ⟨5, 1, 1160⟩]
 | 2, 1 => [⟨3, 0, 60⟩, ⟨4, 0, 160⟩, ⟨3, 1, 260⟩, ⟨4, 1, 360⟩, ⟨3, 2, 460⟩, ⟨4, 2, 560⟩, ⟨3, 3, 660⟩, ⟨4, 3, 760⟩, ⟨2, 0, 860⟩, ⟨2, 1, 960⟩, ⟨2, 2, 1060⟩, ⟨2, 3, 1160⟩, ⟨2, 4, 1260⟩, ⟨2, 5, 1360⟩, ⟨2, 6, 1460⟩, ⟨2, 7, 1560⟩, ⟨5, 0, 1660⟩, ⟨5, 1, 1760⟩, ⟨5, 2, 1860⟩, ⟨5, 3, 1960⟩]
 | 2, 2 => [⟨3, 0, 60⟩, ⟨4, 0, 160⟩, ⟨3, 1, 260⟩, ⟨4, 1, 360⟩, ⟨2, 0, 460⟩, ⟨2, 1, 560⟩, ⟨2, 2, 660⟩, ⟨2, 3, 760⟩, ⟨2, 4, 860⟩, ⟨2, 5, 960⟩, ⟨5, 0, 1060⟩, ⟨5, 1, 1160⟩]
 | 3, 0 => [⟨3, 0, 60⟩, ⟨4, 0, 160⟩, ⟨3, 1, 260⟩, ⟨4, 1, 360⟩, ⟨3, 2, 460⟩, ⟨4, 2, 560⟩, ⟨3, 3, 660⟩, ⟨4, 3, 760⟩, ⟨2, 0, 860⟩, ⟨2, 1, 960⟩, ⟨2, 2, 1060⟩, ⟨2, 3, 1160⟩, ⟨2, 4, 1260⟩, ⟨2, 5, 1360⟩, ⟨2, 6, 1460⟩, ⟨2, 7, 1560⟩, ⟨5, 0, 1660⟩, ⟨5, 1, 1760⟩, ⟨5, 2, 1860⟩, ⟨5, 3, 1960⟩]
 | 3, 1 => [⟨3, 0, 60⟩, ⟨4, 0, 160⟩, ⟨3, 1, 260⟩, ⟨4, 1, 360⟩, ⟨3, 2, 460⟩, ⟨4, 2, 560⟩, ⟨3, 3, 660⟩, ⟨4, 3, 760⟩, ⟨2, 0, 860⟩, ⟨2, 1, 960⟩, ⟨2, 2, 1060⟩, ⟨2, 3, 1160⟩, ⟨2, 4, 1260⟩, ⟨2, 5, 1360⟩, ⟨2, 6, 1460⟩, ⟨2, 7, 1560⟩, ⟨5, 0, 1660⟩, ⟨5, 1, 1760⟩, ⟨5, 2, 1860⟩, ⟨5, 3, 1960⟩]
 | 3, 2 => [⟨3, 0, 60⟩, ⟨4, 0, 160⟩, ⟨3, 1, 260⟩, ⟨4, 1, 360⟩, ⟨3, 2, 460⟩, ⟨4, 2, 560⟩, ⟨3, 3, 660⟩, ⟨4, 3, 760⟩, ⟨2, 0, 860⟩, ⟨2, 1, 960⟩, ⟨2, 2, 1060⟩, ⟨2, 3, 1160⟩, ⟨2, 4, 1260⟩, ⟨2, 5, 1360⟩, ⟨2, 6, 1460⟩, ⟨2, 7, 1560⟩, ⟨5, 0, 1660⟩, ⟨5, 1, 1760⟩, ⟨5, 2, 1860⟩, ⟨5, 3, 1960⟩]
 | 4, 0 => [⟨3, 0, 60⟩, ⟨4, 0, 160⟩, ⟨3, 1, 260⟩, ⟨4, 1, 360⟩, ⟨3, 2, 460⟩, ⟨4, 2, 560⟩, ⟨3, 3, 660⟩, ⟨4, 3, 760⟩, ⟨2, 0, 860⟩, ⟨2, 1, 960⟩, ⟨2, 2, 1060⟩, ⟨2, 3, 1160⟩, ⟨2, 4, 1260⟩, ⟨2, 5, 1360⟩, ⟨2, 6, 1460⟩, ⟨2, 7, 1560⟩, ⟨5, 0, 1660⟩, ⟨5, 1, 1760⟩, ⟨5, 2, 1860⟩, ⟨5, 3, 1960⟩]
 | 4, 1 => [⟨3, 0, 60⟩, ⟨4, 0, 160⟩, ⟨3, 1, 260⟩, ⟨4, 1, 360⟩, ⟨2, 0, 460⟩, ⟨2, 1, 560⟩, ⟨2, 2, 660⟩, ⟨2, 3, 760⟩, ⟨2, 4, 860⟩, ⟨2, 5, 960⟩, ⟨5, 0, 1060⟩, ⟨5, 1, 1160⟩]
 | 4, 2 => [⟨3, 0, 60⟩, ⟨4, 0, 160⟩, ⟨3, 1, 260⟩, ⟨4, 1, 360⟩, ⟨2, 0, 460⟩, ⟨2, 1, 560⟩, ⟨2, 2, 660⟩, ⟨2, 3, 760⟩, ⟨2, 4, 860⟩, ⟨2, 5, 960⟩, ⟨5, 0, 1060⟩, ⟨5, 1, 1160⟩]
 | 5, 0 => [⟨3, 0, 60⟩, ⟨4, 0, 160⟩, ⟨3, 1, 260⟩, ⟨4, 1, 360⟩, ⟨2, 0, 460⟩, ⟨2, 1, 560⟩, ⟨2, 2, 660⟩, ⟨2, 3, 760⟩, ⟨2, 4, 860⟩, ⟨2, 5, 960⟩, ⟨5, 0, 1060⟩, ⟨5, 1, 1160⟩]
 | 5, 1 => [⟨3, 0, 60⟩, ⟨4, 0, 160⟩, ⟨3, 1, 260⟩, ⟨4, 1, 360⟩, ⟨3, 2, 460⟩, ⟨4, 2, 560⟩, ⟨3, 3, 660⟩, ⟨4, 3, 760⟩, ⟨2, 0, 860⟩, ⟨2, 1, 960⟩, ⟨2, 2, 1060⟩, ⟨2, 3, 1160⟩, ⟨2, 4, 1260⟩, ⟨2, 5, 1360⟩, ⟨2, 6, 1460⟩, ⟨2, 7, 1560⟩, ⟨5, 0, 1660⟩, ⟨5, 1, 1760⟩, ⟨5, 2, 1860⟩, ⟨5, 3, 1960⟩]
 | 5, 2 => [⟨3, 0, 60⟩, ⟨4, 0, 160⟩, ⟨3, 1, 260⟩, ⟨4, 1, 360⟩, ⟨3, 2, 460⟩, ⟨4, 2, 560⟩, ⟨3, 3, 660⟩, ⟨4, 3, 760⟩, ⟨2, 0, 860⟩, ⟨2, 1, 960⟩, ⟨2, 2, 1060⟩, ⟨2, 3, 1160⟩, ⟨2, 4, 1260⟩, ⟨2, 5, 1360⟩, ⟨2, 6, 1460⟩, ⟨2, 7, 1560⟩, ⟨5, 0, 1660⟩, ⟨5, 1, 1760⟩, ⟨5, 2, 1860⟩, ⟨5, 3, 1960⟩]
 | 5, 3 => [⟨3, 0, 60⟩, ⟨4, 0, 160⟩, ⟨3, 1, 260⟩, ⟨4, 1, 360⟩, ⟨2, 0, 460⟩, ⟨2, 1, 560⟩, ⟨2, 2, 660⟩, ⟨2, 3, 760⟩, ⟨2, 4, 860⟩, ⟨2, 5, 960⟩, ⟨5, 0, 1060⟩, ⟨5, 1, 1160⟩]
 | 6, 0 => [⟨3, 0, 60⟩, ⟨4, 0, 160⟩, ⟨3, 1, 260⟩, ⟨4, 1, 360⟩, ⟨3, 2, 460⟩, ⟨4, 2, 560⟩, ⟨3, 3, 660⟩, ⟨4, 3, 760⟩, ⟨2, 0, 860⟩, ⟨2, 1, 960⟩, ⟨2, 2, 1060⟩, ⟨2, 3, 1160⟩, ⟨2, 4, 1260⟩, ⟨2, 5, 1360⟩, ⟨2, 6, 1460⟩, ⟨2, 7, 1560⟩, ⟨5, 0, 1660⟩, ⟨5, 1, 1760⟩, ⟨5, 2, 1860⟩, ⟨5, 3, 1960⟩]
 | 6, 1 => [⟨3, 0, 60⟩, ⟨4, 0, 160⟩, ⟨3, 1, 260⟩, ⟨4, 1, 360⟩, ⟨3, 2, 460⟩, ⟨4, 2, 560⟩, ⟨3, 3, 660⟩, ⟨4, 3, 760⟩, ⟨2, 0, 860⟩, ⟨2, 1, 960⟩, ⟨2, 2, 1060⟩, ⟨2, 3, 1160⟩, ⟨2, 4, 1260⟩, ⟨2, 5, 1360⟩, ⟨2, 6, 1460⟩, ⟨2, 7, 1560⟩, ⟨5, 0, 1660⟩, ⟨5, 1, 1760⟩, ⟨5, 2, 1860⟩, ⟨5, 3, 1960⟩]
 | 6, 2 => [⟨3, 0, 60⟩, ⟨4, 0, 160⟩, ⟨3, 1, 260⟩, ⟨4, 1, 360⟩, ⟨3, 2, 460⟩, ⟨4, 2, 560⟩, ⟨3, 3, 660⟩, ⟨4, 3, 760⟩, ⟨2, 0, 860⟩, ⟨2, 1, 960⟩, ⟨2, 2, 1060⟩, ⟨2, 3, 1160⟩, ⟨2, 4, 1260⟩, ⟨2, 5, 1360⟩, ⟨2, 6, 1460⟩, ⟨2, 7, 1560⟩, ⟨5, 0, 1660⟩, ⟨5, 1, 1760⟩, ⟨5, 2, 1860⟩, ⟨5, 3, 1960⟩]
 | 6, 3 => [⟨3, 0, 60⟩, ⟨4, 0, 160⟩, ⟨3, 1, 260⟩, ⟨4, 1, 360⟩, ⟨3, 2, 460⟩, ⟨4, 2, 560⟩, ⟨3, 3, 660⟩, ⟨4, 3, 760⟩, ⟨2, 0, 860⟩, ⟨2, 1, 960⟩, ⟨2, 2, 1060⟩, ⟨2, 3, 1160⟩, ⟨2, 4, 1260⟩, ⟨2, 5, 1360⟩, ⟨2, 6, 1460⟩, ⟨2, 7, 1560⟩, ⟨5, 0, 1660⟩, ⟨5, 1, 1760⟩, ⟨5, 2, 1860⟩, ⟨5, 3, 1960⟩]
 | 7, 0 => [⟨3, 0, 60⟩, ⟨4, 0, 160⟩, ⟨3, 1, 260⟩, ⟨4, 1, 360⟩, ⟨3, 2, 460⟩, ⟨4, 2, 560⟩, ⟨3, 3, 660⟩, ⟨4, 3, 760⟩, ⟨3, 4, 860⟩, ⟨4, 4, 960⟩, ⟨3, 5, 1060⟩, ⟨4, 5, 1160⟩, ⟨2, 0, 1260⟩, ⟨2, 1, 1360⟩, ⟨2, 2, 1460⟩, ⟨2, 3, 1560⟩, ⟨2, 4, 1660⟩, ⟨2, 5, 1760⟩, ⟨2, 6, 1860⟩, ⟨2, 7, 1960⟩, ⟨2, 8, 2060⟩, ⟨2, 9, 2160⟩, ⟨5, 0, 2260⟩, ⟨5, 1, 2360⟩, ⟨5, 2, 2460⟩, ⟨5, 3, 2560⟩, ⟨5, 4, 2660⟩, ⟨5, 5, 2760⟩]
 | 7, 1 => [⟨3, 0, 60⟩, ⟨4, 0, 160⟩, ⟨3, 1, 260⟩, ⟨4, 1, 360⟩, ⟨2, 0, 460⟩, ⟨2, 1, 560⟩, ⟨2, 2, 660⟩, ⟨2, 3, 760⟩, ⟨2, 4, 860⟩, ⟨2, 5, 960⟩, ⟨5, 0, 1060⟩, ⟨5, 1, 1160⟩]
 | 7, 2 => [⟨3, 0, 60⟩, ⟨4, 0, 160⟩, ⟨3, 1, 260⟩, ⟨4, 1, 360⟩, ⟨2, 0, 460⟩, ⟨2, 1, 560⟩, ⟨2, 2, 660⟩, ⟨2, 3, 760⟩, ⟨2, 4, 860⟩, ⟨2, 5, 960⟩, ⟨5, 0, 1060⟩, ⟨5, 1, 1160⟩]
 | 7, 3 => [⟨3, 0, 60⟩, ⟨4, 0, 160⟩, ⟨3, 1, 260⟩, ⟨4, 1, 360⟩, ⟨2, 0, 460⟩, ⟨2, 1, 560⟩, ⟨2, 2, 660⟩, ⟨2, 3, 760⟩, ⟨2, 4, 860⟩, ⟨2, 5, 960⟩, ⟨5, 0, 1060⟩, ⟨5, 1, 1160⟩]
 | _, _ => []
def bP (k : Nat) (x : Nums) : Config := ⟨aBi k, aTe k, x.cycle, 60, 100, x.window, x.drift, 300000, x.ages, x.lost, x.listen, x.span, 12⟩
structure NumOK (n : Int) (x : Nums) : Prop where
 cy : 20000 ≤ x.cycle ∧ x.cycle ≤ 27000
 dr : 0 ≤ x.drift ∧ x.drift ≤ 140
 wi : x.window = 3 * (uF (2 * x.drift * x.cycle) 1000000 + 1)
 lo : 0 ≤ x.lost ∧ x.lost ≤ 1
 ag : (n - 1) * (x.lost + 1) + 1 ≤ x.ages ∧ x.ages ≤ 10
 li : n * (x.lost + 1) + 2 ≤ x.listen ∧ x.listen ≤ 12
 sp : n * (x.lost + 1) + 2 ≤ x.span ∧ x.span ≤ 12
structure NetR (c : Config) (P : Nat → List Port) (S : Nat → List Slot) : Prop extends Net c P S where
 rslt : ∀ s H (p : Nat), p < c.parts.length → Call tab s aZ [c.v, .int .i64 (p : Int)] H = some (.sl none (S p).length (enL (S p)), H)
end Go.Abs
namespace Go.Abs
open Go.Proofs.YtpcnjabfiahhhaaGreatDoor
attribute [local irreducible] enL R RR gT fU rC gG gU qS apply fW gZ bQ cC fB bN iN bK bG eS cV lA dU V.rb V.rbL
def mR (l : List Link) (p : Int) : Int := match l with
 | [] => 0
 | x :: r => (if x.a = p ∨ x.b = p then 2 else 0) + mR r p
theorem aIj (l : List Link) (x : Link) (p : Int) : mR (l ++ [x]) p = mR l p + (if x.a = p ∨ x.b = p then 2 else 0) := by
 induction l with
 | nil => simp [mR]
 | cons y l ih => rw [List.cons_append, mR, ih, mR]; omega
theorem aIk {l : List Link} {i : Nat} {x : Link} {p : Int} (h : l[i]? = some x) : mR (l.take (i + 1)) p = mR (l.take i) p + (if x.a = p ∨ x.b = p then 2 else 0) := by rw [← oB h, aIj]
theorem aBm (l : List Link) (p : Int) : 0 ≤ mR l p ∧ mR l p ≤ 2 * l.length := by
 induction l with
 | nil => simp [mR]
 | cons x l ih => rw [mR, List.length_cons]; split <;> omega
section
variable {H : aB} {s : Option Nat} {pid pn pk : Nat} {x1 x2 x3 x4 x5 x6 x7 x8 x9 x10 x11 p : Int}
theorem aDx (hp : pid < H.length) : Call tab s oF [.agg [.ar 2 pid 0 pn pk, .nls, .int .i64 x1, .int .i64 x2, .int .i64 x3, .int .i64 x4, .int .i64 x5, .int .i64 x6, .int .i64 x7, .int .i64 x8, .int .i64 x9, .int .i64 x10, .int .i64 x11], .int .i64 p] H = some (.int .i64 0, H) := by
 have hb : V.rbL 0 [V.agg [.ar 2 pid 0 pn pk, .nls, .int .i64 x1, .int .i64 x2, .int .i64 x3, .int .i64 x4, .int .i64 x5, .int .i64 x6, .int .i64 x7, .int .i64 x8, .int .i64 x9, .int .i64 x10, .int .i64 x11], .int .i64 p] = false := by simp [V.rbL, V.rb]
 ((first | refine aJ ?_ | skip); refine aP7 (cf := jB) rfl rfl rfl rfl hb ?_; unfold jB; dsimp only [aC, Nat.reduceAdd, Nat.zero_add])
 repeat' (first | refine aS ?_ | refine yc ?_ | (show zn; refine aA ?_) | (show gA; first | refine aH (fun _ => ?_) fun _ => ?_ | refine gc_E (fun _ => ?_) fun _ => ?_ | refine gc_N (fun _ => ?_) fun _ => ?_ | refine aT ?_ | refine gc_B (fun _ => ?_) fun _ => ?_) | fail)
 refine bB ?_
 unfold fZ
 repeat' (first | refine aS ?_ | refine yc ?_ | (show zn; refine aA ?_) | (show gA; first | refine aH (fun _ => ?_) fun _ => ?_ | refine gc_E (fun _ => ?_) fun _ => ?_ | refine gc_N (fun _ => ?_) fun _ => ?_ | refine aT ?_ | refine gc_B (fun _ => ?_) fun _ => ?_) | fail)
 rfl
set_option maxHeartbeats 1000000 in
theorem aHk {lid lq : Nat} {l : List Link} (hp : pid < H.length) (hl : H[lid]? = some (enL l)) (hn : l.length ≤ 10) : Call tab s oF [.agg [.ar 2 pid 0 pn pk, .ar 6 lid 0 l.length lq, .int .i64 x1, .int .i64 x2, .int .i64 x3, .int .i64 x4, .int .i64 x5, .int .i64 x6, .int .i64 x7, .int .i64 x8, .int .i64 x9, .int .i64 x10, .int .i64 x11], .int .i64 p] H = some (.int .i64 (mR l p), H) := by
 have hb : V.rbL 0 [V.agg [.ar 2 pid 0 pn pk, .ar 6 lid 0 l.length lq, .int .i64 x1, .int .i64 x2, .int .i64 x3, .int .i64 x4, .int .i64 x5, .int .i64 x6, .int .i64 x7, .int .i64 x8, .int .i64 x9, .int .i64 x10, .int .i64 x11], .int .i64 p] = false := by simp [V.rbL, V.rb]
 have hll : lid < H.length := (List.getElem?_eq_some_iff.1 hl).1
 ((first | refine aJ ?_ | skip); refine aP7 (cf := jB) rfl rfl rfl rfl hb ?_; unfold jB; dsimp only [aC, Nat.reduceAdd, Nat.zero_add])
 repeat' (first | refine aS ?_ | refine yc ?_ | (show zn; refine aA ?_) | (show gA; first | refine aH (fun _ => ?_) fun _ => ?_ | refine gc_E (fun _ => ?_) fun _ => ?_ | refine gc_N (fun _ => ?_) fun _ => ?_ | refine aT ?_ | refine gc_B (fun _ => ?_) fun _ => ?_) | fail)
 refine yP l.length (fun i (_ : Unit) => [(5, .int .i64 (mR (l.take i) p)), (6, .int .i64 i)]) (fun _ _ => _) (fun _ _ => True) ?_ ?_ () trivial
 ·intro i _ hi _ ih
  obtain ⟨x, hx⟩ := yO hi
  rw [aIk hx] at ih
  have hbd := aBm (l.take i) p
  rw [List.length_take] at hbd
  generalize mR (l.take i) p = q at *
  have hil : (i : Int) < (l.length : Int) := by omega
  have hwi : IntKind.i64.wrap ((i : Int) + 1) = ((i + 1 : Nat) : Int) := IntWalk.i64_in _ (by omega)
  by_cases h1 : x.a = p ∨ x.b = p
  ·rw [if_pos h1] at ih
   by_cases h2 : x.a = p
   ·refine cG (by dsimp only [qG, lk, Nat.reduceBEq, cond_true, cond_false, Option.getD_some, Option.getD_none]; first | done | exact rfl) ?_; refine bB ?_
    unfold fZ
    repeat' (first | refine aS ?_ | refine yc ?_ | (show zn; refine aA ?_) | (show gA; first | refine aH (fun _ => ?_) fun _ => ?_ | refine gc_E (fun _ => ?_) fun _ => ?_ | refine gc_N (fun _ => ?_) fun _ => ?_ | refine aT ?_ | refine gc_B (fun _ => ?_) fun _ => ?_) | fail)
    refine jW ?_
    exact ih () trivial
   ·have h3 : x.b = p := h1.resolve_left h2
    refine cG (by dsimp only [qG, lk, Nat.reduceBEq, cond_true, cond_false, Option.getD_some, Option.getD_none]; first | done | exact rfl) ?_; refine bB ?_
    unfold fZ
    repeat' (first | refine aS ?_ | refine yc ?_ | (show zn; refine aA ?_) | (show gA; first | refine aH (fun _ => ?_) fun _ => ?_ | refine gc_E (fun _ => ?_) fun _ => ?_ | refine gc_N (fun _ => ?_) fun _ => ?_ | refine aT ?_ | refine gc_B (fun _ => ?_) fun _ => ?_) | fail)
    refine jW ?_
    exact ih () trivial
  ·rw [if_neg h1] at ih
   have h2 : ¬ x.a = p := fun k => h1 (.inl k)
   have h3 : ¬ x.b = p := fun k => h1 (.inr k)
   refine cG (by dsimp only [qG, lk, Nat.reduceBEq, cond_true, cond_false, Option.getD_some, Option.getD_none]; first | done | exact rfl) ?_; refine bB ?_
   unfold fZ
   repeat' (first | refine aS ?_ | refine yc ?_ | (show zn; refine aA ?_) | (show gA; first | refine aH (fun _ => ?_) fun _ => ?_ | refine gc_E (fun _ => ?_) fun _ => ?_ | refine gc_N (fun _ => ?_) fun _ => ?_ | refine aT ?_ | refine gc_B (fun _ => ?_) fun _ => ?_) | fail)
   refine jW ?_
   have := ih () trivial
   rw [Int.add_zero] at this
   exact this
 ·intro _ _
  rw [List.take_length]
  refine cG (by dsimp only [qG, lk, Nat.reduceBEq, cond_true, cond_false, Option.getD_some, Option.getD_none]; first | done | exact rfl) ?_; refine bB ?_
  unfold fZ
  repeat' (first | refine aS ?_ | refine yc ?_ | (show zn; refine aA ?_) | (show gA; first | refine aH (fun _ => ?_) fun _ => ?_ | refine gc_E (fun _ => ?_) fun _ => ?_ | refine gc_N (fun _ => ?_) fun _ => ?_ | refine aT ?_ | refine gc_B (fun _ => ?_) fun _ => ?_) | fail)
  rfl
end
end Go.Abs
namespace Go.Abs
open Go.Proofs.YtpcnjabfiahhhaaGreatDoor
attribute [local irreducible] enL R RR gT fU rC gG gU qS apply fW gZ bQ cC fB bN iN bK bG eS cV lA dU V.rb V.rbL
section
variable {H : aB} {lm id pid pn pk a b : Nat} {x1 x2 x3 x4 x5 x6 x7 x8 x9 x10 x11 na nb : Int} {PC : List V}
set_option maxHeartbeats 2000000 in
theorem nU (hid : H[id]? = some [.ar 2 pid 0 pn pk, .nls, .int .i64 x1, .int .i64 x2, .int .i64 x3, .int .i64 x4, .int .i64 x5, .int .i64 x6, .int .i64 x7, .int .i64 x8, .int .i64 x9, .int .i64 x10, .int .i64 x11])
 (hpid : H[pid]? = some PC) (hne : id ≠ pid) (ha : PC[2 * a]? = some (.int .i64 na)) (hb : PC[2 * b]? = some (.int .i64 nb)) (hab : a ≠ b) (han : a < pn) (hbn : b < pn) (hlm : lm ≤ pid) (hrb : V.rbL H.length PC = true) :
 Call tab (some lm) mV [.ptr id 0, .int .i64 (a : Int), .int .i64 (b : Int)] H = some (.agg [.int .i64 a, .int .i64 b, .int .i64 0, .int .i64 1, .int .i64 0, .int .i64 1], H.set pid ((PC.set (2 * a) (.int .i64 (max na 6))).set (2 * b) (.int .i64 (max nb 6)))) := by
 have hil : id < H.length := (List.getElem?_eq_some_iff.1 hid).1
 have hpl : pid < H.length := (List.getElem?_eq_some_iff.1 hpid).1
 have oa : 0 + ((a : Int)).toNat * 2 = 2 * a := by omega
 have ob : 0 + ((b : Int)).toNat * 2 = 2 * b := by omega
 have hne2 : pid ≠ id := fun e => hne e.symm
 have hb2 : (PC.set (2 * a) (.int .i64 (max na 6)))[2 * b]? = some (.int .i64 nb) := by rw [List.getElem?_set_ne (by omega)]; exact hb
 have hal : (a : Int) < (pn : Int) := by omega
 have hlm2 : lm ≤ H.length := by omega
 have w1 : IntKind.i64.wrap (0 + 6 : Int) = 6 := by decide
 have w2 : IntKind.i64.wrap (0 + 1 : Int) = 1 := by decide
 have hbl : (b : Int) < (pn : Int) := by omega
 ((first | refine aJ ?_ | skip); refine aI7 (cf := iF) rfl rfl rfl (by decide) ?_; unfold iF; dsimp only [aC, Nat.reduceAdd, Nat.zero_add])
 repeat' (first | refine aS ?_ | refine yc ?_ (ha := by first | exact aDx (by simp only [List.length_append, List.length_cons, List.length_nil]; omega) | assumption) | (show zn; refine aA ?_ (ha := by first | exact aDx (by simp only [List.length_append, List.length_cons, List.length_nil]; omega) | assumption)) | (show gA; first | refine aH (fun _ => ?_) fun _ => ?_ | refine gc_E (fun _ => ?_) fun _ => ?_ | refine gc_N (fun _ => ?_) fun _ => ?_ | refine aT ?_ | refine gc_B (fun _ => ?_) fun _ => ?_) | fail)
 rw [List.append_assoc, List.take_left' (by rw [List.length_set])]
set_option maxHeartbeats 2000000 in
theorem iD {lid lq : Nat} {l : List Link} (hid : H[id]? = some [.ar 2 pid 0 pn pk, .ar 6 lid 0 l.length lq, .int .i64 x1, .int .i64 x2, .int .i64 x3, .int .i64 x4, .int .i64 x5, .int .i64 x6, .int .i64 x7, .int .i64 x8, .int .i64 x9, .int .i64 x10, .int .i64 x11])
 (hlid : H[lid]? = some (enL l)) (hln : l.length ≤ 10) (hpid : H[pid]? = some PC) (hne : id ≠ pid) (ha : PC[2 * a]? = some (.int .i64 na)) (hb : PC[2 * b]? = some (.int .i64 nb)) (hab : a ≠ b) (han : a < pn) (hbn : b < pn) (hlm : lm ≤ pid) (hrb : V.rbL H.length PC = true) :
 Call tab (some lm) mV [.ptr id 0, .int .i64 (a : Int), .int .i64 (b : Int)] H = some (.agg [.int .i64 a, .int .i64 b, .int .i64 (mR l a), .int .i64 (mR l a + 1), .int .i64 (mR l b), .int .i64 (mR l b + 1)], H.set pid ((PC.set (2 * a) (.int .i64 (max na (mR l a + 6)))).set (2 * b) (.int .i64 (max nb (mR l b + 6))))) := by
 have hil : id < H.length := (List.getElem?_eq_some_iff.1 hid).1
 have hpl : pid < H.length := (List.getElem?_eq_some_iff.1 hpid).1
 have oa : 0 + ((a : Int)).toNat * 2 = 2 * a := by omega
 have ob : 0 + ((b : Int)).toNat * 2 = 2 * b := by omega
 have hne2 : pid ≠ id := fun e => hne e.symm
 have hb2 : (PC.set (2 * a) (.int .i64 (max na (mR l a + 6))))[2 * b]? = some (.int .i64 nb) := by rw [List.getElem?_set_ne (by omega)]; exact hb
 have hal : (a : Int) < (pn : Int) := by omega
 have hlm2 : lm ≤ H.length := by omega
 have ca := aBm l a
 have cb := aBm l b
 have w1 : IntKind.i64.wrap (mR l a + 6 : Int) = mR l a + 6 := IntWalk.i64_in _ (by omega)
 have w2 : IntKind.i64.wrap (mR l a + 1 : Int) = mR l a + 1 := IntWalk.i64_in _ (by omega)
 have w3 : IntKind.i64.wrap (mR l b + 6 : Int) = mR l b + 6 := IntWalk.i64_in _ (by omega)
 have w4 : IntKind.i64.wrap (mR l b + 1 : Int) = mR l b + 1 := IntWalk.i64_in _ (by omega)
 have hll : lid < H.length := (List.getElem?_eq_some_iff.1 hlid).1
 have hbl : (b : Int) < (pn : Int) := by omega
 ((first | refine aJ ?_ | skip); refine aI7 (cf := iF) rfl rfl rfl (by decide) ?_; unfold iF; dsimp only [aC, Nat.reduceAdd, Nat.zero_add])
 repeat' (first | refine aS ?_ | refine yc ?_ (ha := by first | exact aHk (by simp only [List.length_append, List.length_cons, List.length_nil]; omega) (by exact T2) hln | assumption) | (show zn; refine aA ?_ (ha := by first | exact aHk (by simp only [List.length_append, List.length_cons, List.length_nil]; omega) (by exact T2) hln | assumption)) | (show gA; first | refine aH (fun _ => ?_) fun _ => ?_ | refine gc_E (fun _ => ?_) fun _ => ?_ | refine gc_N (fun _ => ?_) fun _ => ?_ | refine aT ?_ | refine gc_B (fun _ => ?_) fun _ => ?_) | fail)
 rw [List.append_assoc, List.take_left' (by rw [List.length_set])]
end
end Go.Abs
namespace Go.Abs
open Go.Proofs.YtpcnjabfiahhhaaGreatDoor
theorem aY7 {s : Option Nat} {H H1 : aB} {n : Nat} {k : IntKind} {v : Int} : qS .F [.t n] s H [] (.ret, [(n, .int k v)], H1) = some (.int k v, H) := by simp [qS, bK, B7, eget, V.noVia, bG, V.flat, tie]
attribute [local irreducible] enL R RR gT fU rC gG gU qS apply fW gZ bQ cC fB bN iN bK bG eS cV lA dU V.rb V.rbL
structure NumA (x : Nums) : Prop where
 cy : 20000 ≤ x.cycle ∧ x.cycle ≤ 27000
 dr : 0 ≤ x.drift ∧ x.drift ≤ 140
 lo : 0 ≤ x.lost ∧ x.lost ≤ 1
 ag : 1 ≤ x.ages ∧ x.ages ≤ 10
def kJ (x : Nums) : Int := uF (2 * x.drift * x.cycle) 1000000 + 1
section
variable {k : Nat} {x : Nums} {s : Option Nat} {H : aB}
theorem nE (h : NumA x) : 1 ≤ kJ x ∧ kJ x ≤ 9 := by
 have h1 : 0 ≤ x.drift * x.cycle ∧ x.drift * x.cycle ≤ 3780000 := f4 h.dr ⟨by have := h.cy; omega, h.cy.2⟩
 have h2 : 2 * x.drift * x.cycle = 2 * (x.drift * x.cycle) := Int.mul_assoc ..
 unfold kJ uF
 rw [if_pos (by decide)]
 omega
theorem aQm (h : NumA x) : Call tab s mF [(bP k x).v] H = some (.int .i64 (kJ x), H) := by
 have h4 : 0 ≤ x.drift * x.cycle ∧ x.drift * x.cycle ≤ 3780000 := f4 h.dr ⟨by have := h.cy; omega, h.cy.2⟩
 have h5 : 2 * x.drift * x.cycle = 2 * (x.drift * x.cycle) := Int.mul_assoc ..
 have h1 := nE h; have h9 := h.dr
 have w1 : IntKind.i64.wrap (2 * x.drift * x.cycle) = 2 * x.drift * x.cycle := IntWalk.i64_in _ (by omega)
 have w3 : IntKind.i64.wrap (uF (2 * x.drift * x.cycle) 1000000 + 1) = kJ x := IntWalk.i64_in _ (by have : kJ x = uF (2 * x.drift * x.cycle) 1000000 + 1 := rfl; omega)
 unfold Config.v bP
 ((first | refine aJ ?_ | skip); refine cB (cf := mK) rfl rfl rfl rfl ?_; unfold mK; dsimp only [aC, Nat.reduceAdd, Nat.zero_add])
 repeat' (first | refine aS ?_ | refine yc ?_ (ha := by first | exact aJb (by omega) | assumption) | (show zn; refine aA ?_ (ha := by first | exact aJb (by omega) | assumption)) | (show gA; first | refine aH (fun _ => ?_) fun _ => ?_ | refine gc_E (fun _ => ?_) fun _ => ?_ | refine gc_N (fun _ => ?_) fun _ => ?_ | refine aT ?_ | refine gc_B (fun _ => ?_) fun _ => ?_) | fail)
 rfl
theorem aTx (h : NumA x) : Call tab s uV [(bP k x).v] H = some (.int .i64 0, H) := by
 have h1 := h.cy; have h2 := h.dr; have h4 := h.ag; have h5 := h.lo
 unfold Config.v bP
 ((first | refine aJ ?_ | skip); refine cB (cf := nW) rfl rfl rfl rfl ?_; unfold nW; dsimp only [aC, Nat.reduceAdd, Nat.zero_add])
 repeat' (first | refine aS ?_ | refine yc ?_ | (show zn; refine aA ?_) | (show gA; first | refine aH (fun _ => ?_) fun _ => ?_ | refine gc_E (fun _ => ?_) fun _ => ?_ | refine gc_N (fun _ => ?_) fun _ => ?_ | refine aT ?_ | refine gc_B (fun _ => ?_) fun _ => ?_) | fail)
 rfl
theorem aIu (h : NumA x) (hp : 1 ≤ (aBi k).length) (hc : ∀ s H, Call tab s bM [(bP k x).v] H = some (.tup [.int .i64 0, .int .i64 0], H)) : Call tab s yT [(bP k x).v] H = some (.bool true, H) := by
 have hg : ∀ s H, Call tab s wW [(bP k x).v, .int .i64 0] H = some (.bool true, H) := by
  intro s H
  have hd : decide ((0 : Int) ≤ 0 ∧ (0 : Int) < ((aBi k).length : Int)) = true := decide_eq_true (by omega)
  rw [← hd]
  unfold Config.v bP at *
  ((first | refine aJ ?_ | skip); refine cB (cf := sW) rfl rfl rfl rfl ?_; unfold sW; dsimp only [aC, Nat.reduceAdd, Nat.zero_add])
  repeat' (first | refine aS ?_ | refine yc ?_ (ha := by first | exact hc _ _ | exact aHe | assumption) | (show zn; refine aA ?_ (ha := by first | exact hc _ _ | exact aHe | assumption)) | (show gA; first | refine aH (fun _ => ?_) fun _ => ?_ | refine gc_E (fun _ => ?_) fun _ => ?_ | refine gc_N (fun _ => ?_) fun _ => ?_ | refine aT ?_ | refine gc_B (fun _ => ?_) fun _ => ?_) | fail)
  rfl
 have ho := fun s H => aTx (k := k) (s := s) (H := H) h
 unfold Config.v bP at *
 ((first | refine aJ ?_ | skip); refine cB (cf := oM) rfl rfl rfl rfl ?_; unfold oM; dsimp only [aC, Nat.reduceAdd, Nat.zero_add])
 repeat' (first | refine aS ?_ | refine yc ?_ (ha := by first | exact hg _ _ | exact ho _ _ | assumption) | (show zn; refine aA ?_ (ha := by first | exact hg _ _ | exact ho _ _ | assumption)) | (show gA; first | refine aH (fun _ => ?_) fun _ => ?_ | refine gc_E (fun _ => ?_) fun _ => ?_ | refine gc_N (fun _ => ?_) fun _ => ?_ | refine aT ?_ | refine gc_B (fun _ => ?_) fun _ => ?_) | fail)
 rfl
theorem sG (h : NumA x) (hp : 1 ≤ (aBi k).length) (hc : ∀ s H, Call tab s bM [(bP k x).v] H = some (.tup [.int .i64 0, .int .i64 0], H)) {v : V} (hv : lA H 0 v = (bP k x).v) : Call tab s y6 [v] H = some (.int .i64 (kJ x), H) := by
 have h1 := fun s H => aIu (s := s) (H := H) h hp hc
 have h2 := fun s H => aQm (k := k) (s := s) (H := H) h
 have hf : [v].map (lA H 0) = [(bP k x).v] := by rw [List.map_cons, hv]; rfl
 unfold Config.v bP at *
 refine aJ ?_
 refine aZy (cf := sU) rfl rfl rfl rfl hf (by exact tRB) ?_
 unfold sU
 dsimp only [aC, Nat.reduceAdd, Nat.zero_add]
 repeat' (first | refine aS ?_ | refine yc ?_ (ha := by first | exact h1 _ _ | exact h2 _ _ | assumption) | (show zn; refine aA ?_ (ha := by first | exact h1 _ _ | exact h2 _ _ | assumption)) | (show gA; first | refine aH (fun _ => ?_) fun _ => ?_ | refine gc_E (fun _ => ?_) fun _ => ?_ | refine gc_N (fun _ => ?_) fun _ => ?_ | refine aT ?_ | refine gc_B (fun _ => ?_) fun _ => ?_) | fail)
 exact zA aY7
theorem lK {β : Type} {T : Tab} {s : Option Nat} {c : C} {e e' : aX} {H H' : aB} {κ : nN → Option β} {Y : Option β → Prop} (he : e = e') (hH : H = H') (h : Ev (R T s c e' H' κ) Y) : Ev (R T s c e H κ) Y := by rw [he, hH]; exact h
theorem cZ : ∀ {n m : Nat} {H : aB} {d : List V}, n ≠ m → qZ n H (H.set m d) = true
 | _, _, [], _, _ => by simp [qZ]
 | 0, 0, _ :: _, _, h => absurd rfl h
 | 0, m + 1, a :: r, d, _ => by simp [qZ, iV]
 | n + 1, 0, a :: r, d, _ => by simp [qZ, zY]
 | n + 1, m + 1, a :: r, d, h => by
   have := cZ (n := n) (m := m) (H := r) (d := d) (by omega)
   simpa [qZ] using this
theorem pN {β : Type} {T : Tab} {l : Nat} {c : C} {e : aX} {G H : aB} {κ : nN → Option β} {Y : Option β → Prop} (hk : eS (some l) G e H = H) (h : Ev (R T (some l) (.loop c) e H κ) Y) : Ev (rC T (some l) c G κ (.nrm, e, H)) Y := M5 hk h
end
end Go.Abs
