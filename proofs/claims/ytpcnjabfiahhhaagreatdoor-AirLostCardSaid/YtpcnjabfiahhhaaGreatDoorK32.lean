/- A part of the proof of RowAirFits, RowAirHeard, RowAirOrder, RowAirLost: lemmas alone, without conditions. -/
import Derived.Test.YtpcnjabfiahhhaaGreatDoorK31
import Derived.Test.YtpcnjabfiahhhaaGreatDoorK30
set_option linter.all false
namespace Go.Abs
open Go.Proofs.YtpcnjabfiahhhaaGreatDoor
attribute [local irreducible] enL R RR dF cZ lV dE dG mP apply dB eI aX aZ cO aW fB aP aN cK bN gL cA V.rb V.rbL
theorem aPm {β : Type} {T : Tab} {s : Option Nat} {c : C} {e : aQ} {H : aB} {κ : oY → Option β} {Y : Option β → Prop} {y : β} (n : Nat) (h : (d7 (s0 T n) s n c e H).bind κ = some y) (k : Ev (some y) Y) : Ev (R T s c e H κ) Y := by
 obtain ⟨o, h1, h2⟩ := Option.bind_eq_some_iff.1 h
 refine pL n h1 ?_
 rw [h2]; exact k
structure Nums where
 cycle : Int
 window : Int
 drift : Int
 ages : Int
 lost : Int
 listen : Int
 span : Int
def dL : Nat → List Part
 | 0 => [⟨5, 1⟩]
 | 1 => [⟨6, 1⟩, ⟨6, 1⟩]
 | 2 => [⟨6, 1⟩, ⟨8, 1⟩, ⟨6, 1⟩]
 | 3 => [⟨8, 1⟩, ⟨8, 1⟩, ⟨8, 1⟩]
 | 4 => [⟨8, 1⟩, ⟨6, 1⟩, ⟨6, 1⟩]
 | 5 => [⟨6, 1⟩, ⟨8, 1⟩, ⟨8, 1⟩, ⟨6, 1⟩]
 | 6 => [⟨8, 1⟩, ⟨8, 1⟩, ⟨8, 1⟩, ⟨8, 1⟩]
 | 7 => [⟨10, 1⟩, ⟨6, 1⟩, ⟨6, 1⟩, ⟨6, 1⟩]
 | _ => []
def U5 : Nat → List Link
 | 0 => []
 | 1 => [⟨0, 1, 0, 1, 0, 1⟩]
 | 2 => [⟨0, 1, 0, 1, 0, 1⟩, ⟨1, 2, 2, 3, 0, 1⟩]
 | 3 => [⟨0, 1, 0, 1, 0, 1⟩, ⟨1, 2, 2, 3, 0, 1⟩, ⟨0, 2, 2, 3, 2, 3⟩]
 | 4 => [⟨0, 1, 0, 1, 0, 1⟩, ⟨0, 2, 2, 3, 0, 1⟩]
 | 5 => [⟨0, 1, 0, 1, 0, 1⟩, ⟨1, 2, 2, 3, 0, 1⟩, ⟨2, 3, 2, 3, 0, 1⟩]
 | 6 => [⟨0, 1, 0, 1, 0, 1⟩, ⟨1, 2, 2, 3, 0, 1⟩, ⟨2, 3, 2, 3, 0, 1⟩, ⟨0, 3, 2, 3, 2, 3⟩]
 | 7 => [⟨0, 1, 0, 1, 0, 1⟩, ⟨0, 2, 2, 3, 0, 1⟩, ⟨0, 3, 4, 5, 0, 1⟩]
 | _ => []
def y0 (p : Int) : List Link → Int → List Port
 | [], _ => []
 | l :: r, i => (if l.a = p then [⟨l.pa0, i, 0, 0⟩, ⟨l.pa1, i, 1, 0⟩] else if l.b = p then [⟨l.pb0, i, 0, 1⟩, ⟨l.pb1, i, 1, 1⟩] else []) ++ y0 p r (i + 1)
def aXj : List (Int × Int) → Int → List Slot
 | [], _ => []
 | x :: r, o => ⟨x.1, x.2, o⟩ :: aXj r (o + 100)
def aTl (l : List Port) (n : Nat) : List Slot := aXj (l.flatMap (fun q => [(3, q.node), (4, q.node)]) ++ (List.range n).map (fun i : Nat => ((2 : Int), (i : Int))) ++ l.map fun q => (5, q.node)) 60
def fQ (k p : Nat) : List Port := if p < (dL k).length then y0 p (U5 k) 0 else []
def jK (k p : Nat) : List Slot := match (dL k)[p]? with
 | some x => aTl (fQ k p) x.nodes.toNat
 | none => []
def pA (k : Nat) (x : Nums) : Config := ⟨dL k, U5 k, x.cycle, 60, 100, x.window, x.drift, 300000, x.ages, x.lost, x.listen, x.span, 12⟩
structure NumOK (n : Int) (x : Nums) : Prop where
 cy : 20000 ≤ x.cycle ∧ x.cycle ≤ 27000
 dr : 0 ≤ x.drift ∧ x.drift ≤ 140
 wi : x.window = 3 * (P0 (2 * x.drift * x.cycle) 1000000 + 1)
 lo : 0 ≤ x.lost ∧ x.lost ≤ 1
 ag : (n - 1) * (x.lost + 1) + 1 ≤ x.ages ∧ x.ages ≤ 10
 li : n * (x.lost + 1) + 2 ≤ x.listen ∧ x.listen ≤ 12
 sp : n * (x.lost + 1) + 2 ≤ x.span ∧ x.span ≤ 12
structure NetR (c : Config) (P : Nat → List Port) (S : Nat → List Slot) : Prop extends Net c P S where
 rslt : ∀ s H (p : Nat), p < c.parts.length → Call tab s eX [c.v, .int .i64 (p : Int)] H = some (.sl none (S p).length (enL (S p)), H)
end Go.Abs
namespace Go.Abs
open Go.Proofs.YtpcnjabfiahhhaaGreatDoor
theorem wK {s : Option Nat} {H : aB} {f : FuncId} {i o : Nat} : apply s (.mkf f) [.ptr i o] H = some (.fn f [.ptr i o], H) := rfl
attribute [local irreducible] enL R RR dF cZ lV dE dG mP apply dB eI aX aZ cO aW fB aP aN cK bN gL cA V.rb V.rbL
def aL6 (k n : Int) (x : Slot) : Bool := decide (x.kind = k ∧ x.node = n)
def oF (l : List Slot) (k n : Int) : Int := yS (aL6 k n) l 0
theorem bAf {c : Config} {p : Int} (h : ¬ (0 ≤ p ∧ p < c.parts.length)) : p < 0 ∨ (c.parts.length : Int) ≤ p := by omega
def view0 : View := ⟨⟨[], [], 0, 0, 0, 0, 0, 0, 0, 0, 0, 0, 0⟩, 0, [], [], 0, 0, 0, 0, 0, 0, 0⟩
def jY (c : Config) (P : Nat → List Port) (S : Nat → List Slot) (p : Nat) : View := ⟨c, p, S p, P p, edgeC c, 2 * edgeC c, n5 c, oM c, B5 c, aMb c, c.ages + 1⟩
set_option maxHeartbeats 1000000 in
theorem aRc {c : Config} {P : Nat → List Port} {S : Nat → List Slot} (h : Net c P S) {s : Option Nat} {H : aB} {p : Nat} (hp : p < c.parts.length) : Call tab s xU [c.v, .int .i64 (p : Int)] H = some (.tup [(jY c P S p).v, .bool true], H) := by
 have h1 := fun s H => aMi (s := s) (H := H) h
 have h2 := h.ends
 have h3 := h.lst
 have h4 := fun s H => aF9 (s := s) (H := H) h
 unfold jY View.v Config.v at *
 ((first | refine aC ?_ | skip); refine bE (cf := sE) rfl rfl rfl rfl ?_; unfold sE; dsimp only [aA, Nat.reduceAdd, Nat.zero_add])
 repeat' (first | refine aF ?_ | refine yc ?_ (ha := by first | exact h1 _ _ | exact h2 _ _ _ hp | exact h3 _ _ _ hp | exact h4 _ _ | assumption) | refine sG (fun _ => ?_) fun _ => ?_ | refine aG ?_ | refine sH (fun _ => ?_) fun _ => ?_ | fail)
 rfl
theorem aVm {c : Config} {P : Nat → List Port} {S : Nat → List Slot} (h : Net c P S) {s : Option Nat} {H : aB} {p : Int} (hp : ¬ (0 ≤ p ∧ p < c.parts.length)) : Call tab s xU [c.v, .int .i64 p] H = some (.tup [view0.v, .bool false], H) := by
 have h1 := fun s H => aMi (s := s) (H := H) h
 unfold view0 View.v Config.v at *
 rcases bAf hp with h5 | h5
 all_goals (
  ((first | refine aC ?_ | skip); refine bE (cf := sE) rfl rfl rfl rfl ?_; unfold sE; dsimp only [aA, Nat.reduceAdd, Nat.zero_add])
  repeat' (first | refine aF ?_ | refine yc ?_ (ha := by first | exact h1 _ _ | assumption) | refine sG (fun _ => ?_) fun _ => ?_ | refine aG ?_ | refine sH (fun _ => ?_) fun _ => ?_ | fail)
  simp only [aL, List.length_nil])
end Go.Abs
namespace Go.Abs
open Go.Proofs.YtpcnjabfiahhhaaGreatDoor
attribute [local irreducible] enL R RR dF cZ lV dE dG mP apply dB eI aX aZ cO aW fB aP aN cK bN gL cA V.rb V.rbL
theorem aD2 {α : Type} {p : α → Bool} : ∀ {l : List α} {n : Nat}, 0 ≤ yS p l n → ∃ x, l[(yS p l n).toNat - n]? = some x ∧ n ≤ (yS p l n).toNat ∧ (yS p l n).toNat < n + l.length ∧ p x = true
 | [], n, h => by simp [yS] at h
 | x :: l, n, h => by
   cases hp : p x
   ·rw [wO hp] at h ⊢
    obtain ⟨y, h1, h2, h3, h4⟩ := aD2 (l := l) (n := n + 1) h
    refine ⟨y, ?_, by omega, by simp only [List.length_cons]; omega, h4⟩
    rw [show (yS p l (n + 1)).toNat - n = (yS p l (n + 1)).toNat - (n + 1) + 1 by omega, List.getElem?_cons_succ]
    exact h1
   ·rw [rH hp]
    exact ⟨x, by simp, by simp, by simp, hp⟩
theorem aGs {l : List Slot} {k n : Int} (h : 0 ≤ oF l k n) : ∃ x, l[(oF l k n).toNat]? = some x ∧ oF l k n < (l.length : Int) ∧ x.kind = k ∧ x.node = n := by
 obtain ⟨x, h1, h2, h3, h4⟩ := aD2 h
 unfold oF at *
 refine ⟨x, by simpa using h1, by omega, ?_⟩
 simpa [aL6] using h4
def Spk (l : List Slot) (k : Int) (f : Frame) (start : Int) : Prop := 0 ≤ oF l k f.node ∧ tD f ∧ Tm start
instance (l : List Slot) (k : Int) (f : Frame) (start : Int) : Decidable (Spk l k f start) := inferInstanceAs (Decidable (_ ∧ _))
end Go.Abs
namespace Go.Abs
open Go.Proofs.YtpcnjabfiahhhaaGreatDoor
attribute [local irreducible] enL R RR dF cZ lV dE dG mP apply dB eI aX aZ cO aW fB aP aN cK bN gL cA V.rb V.rbL
end Go.Abs
namespace Go.Abs
open Go.Proofs.YtpcnjabfiahhhaaGreatDoor
attribute [local irreducible] enL R RR dF cZ lV dE dG mP apply dB eI aX aZ cO aW fB aP aN cK bN gL cA V.rb V.rbL
end Go.Abs
namespace Go.Abs
open Go.Proofs.YtpcnjabfiahhhaaGreatDoor
attribute [local irreducible] enL R RR dF cZ lV dE dG mP apply dB eI aX aZ cO aW fB aP aN cK bN gL cA V.rb V.rbL
end Go.Abs
