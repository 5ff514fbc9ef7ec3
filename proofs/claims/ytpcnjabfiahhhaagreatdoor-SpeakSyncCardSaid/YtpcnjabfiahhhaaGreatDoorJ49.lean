/- A part of the proof of RowSpeakSync: lemmas alone, without conditions. -/
import Derived.Test.YtpcnjabfiahhhaaGreatDoorJ37
import Derived.Test.YtpcnjabfiahhhaaGreatDoorJ48
set_option linter.all false
namespace Go.Abs
open Go.Proofs.YtpcnjabfiahhhaaGreatDoor
attribute [local irreducible] enL R RR gT fU rC gG gU qS apply fW gZ bQ cC fB bN iN bK bG eS cV lA dU V.rb V.rbL
abbrev aBe : Ty := .st [.int .i64, .int .i64, .int .i64, .int .i64, .int .i64, .sl (.int .i64), .int .i64, .int .i64]
theorem aPa {cs : List V} (h : zZ aBe cs) : ∃ x : Node, cs = Cel.enc x ∧ True := by
 simp only [aBe, zZ, TyL] at h
 obtain ⟨_, _, rfl, ⟨a, rfl, _⟩, _, _, rfl, ⟨b, rfl, _⟩, _, _, rfl, ⟨c, rfl, _⟩, _, _, rfl, ⟨d, rfl, _⟩, _, _, rfl, ⟨e, rfl, _⟩, f, _, rfl, hf, _, _, rfl, ⟨g, rfl, _⟩, _, _, rfl, ⟨i, rfl, _⟩, rfl⟩ := h
 obtain ⟨f', rfl, _⟩ := aX1 (fun _ => aSz) (show zZ (.sl (.int .i64)) f from by simpa only [zZ] using hf)
 exact ⟨⟨a, b, c, d, e, f', g, i⟩, rfl, trivial⟩
theorem G3 {s : Option Nat} {H : aB} : Call tab s tD [] H = some (.bool true, H) := aE.2 ⟨60, by kernel_rfl⟩
theorem aT1 {s : Option Nat} {H : aB} {y : Say} : Call tab s g6 [y.v, y.v] H = some (.bool true, H) := by
 unfold Say.v
 ((first | refine aJ ?_ | skip); refine cB (cf := qD) rfl rfl rfl rfl ?_; unfold qD; dsimp only [aC, Nat.reduceAdd, Nat.zero_add])
 repeat' (first | refine aS ?_ | refine yc ?_ | (show zn; refine aA ?_) | (show gA; first | refine aH (fun _ => ?_) fun _ => ?_ | refine gc_E (fun _ => ?_) fun _ => ?_ | refine gc_N (fun _ => ?_) fun _ => ?_ | refine aT ?_ | refine gc_B (fun _ => ?_) fun _ => ?_) | fail)
 rw [beq_self_eq_true]
theorem aKc (c : Config) (S : Nat → List Slot) (p n : Int) (x : Node) (ppm : Int) : ∃ (y : Say) (b : Bool), Z8 c S p n x ppm = .tup [y.v, .bool b] := by
 unfold Z8; split
 ·exact aDc ..
 ·exact ⟨_, _, rfl⟩
set_option maxHeartbeats 4000000 in
theorem speakSync {us : List V} (h : aIp [.int .i64, .int .i64, .int .i64, aBe, .int .i64] us) : Call tab none rM us [] = some (.bool true, []) := by
 obtain ⟨_, _, rfl, h1, _, _, rfl, h2, _, _, rfl, h3, _, _, rfl, h4, _, _, rfl, h5, rfl⟩ := h
 obtain ⟨m, rfl, _⟩ := aB2 h1
 obtain ⟨p, rfl, _⟩ := aB2 h2
 obtain ⟨n, rfl, _⟩ := aB2 h3
 obtain ⟨ppm, rfl, _⟩ := aB2 h5
 obtain ⟨cs, rfl, h4⟩ := h4
 obtain ⟨x, rfl, _⟩ := aPa h4
 clear h1 h2 h3 h4 h5
 show Call tab none rM [.int .i64 m, .int .i64 p, .int .i64 n, x.v, .int .i64 ppm] [] = _
 by_cases hx : x.ages.length ≤ 30
 ·obtain ⟨c, P, S, hN, hS, hM⟩ := aQ0 (s := some 0) (H := [Cel.enc x]) m
  obtain ⟨y, b, hy⟩ := aKc c S p n x ppm
  have h1 := fun s H => aT5 hN hS (s := s) (H := H) (p := p) (n := n) (ppm := ppm) (x := x) (by omega)
  have h2 := fun s H => aPb hN hS (s := s) (H := H) (p := p) (n := n) (ppm := ppm) (x := x) (by omega)
  have h3 := fun s H => aT1 (s := s) (H := H) (y := y)
  rw [hy] at h1 h2
  have hM : Call tab (some 0) dF [.int .i64 m] ([] ++ [[.int .i64 x.state, .int .i64 x.wait, .int .i64 x.drift, .int .i64 x.start, .int .i64 x.cycle, .sl none x.ages.length (enL x.ages), .int .i64 x.mask, .int .i64 x.bad]]) = _ := hM
  unfold Node.v Config.v Say.v at *
  ((first | refine aJ ?_ | skip); refine cB (cf := eL) rfl rfl rfl rfl ?_; unfold eL; dsimp only [aC, Nat.reduceAdd, Nat.zero_add])
  repeat' (first | refine aS ?_ | refine yc ?_ (ha := by first | exact G3 | exact hM | exact h1 _ _ | exact h2 _ _ | exact h3 _ _ | assumption) | (show zn; refine aA ?_ (ha := by first | exact G3 | exact hM | exact h1 _ _ | exact h2 _ _ | exact h3 _ _ | assumption)) | (show gA; first | refine aH (fun _ => ?_) fun _ => ?_ | refine gc_E (fun _ => ?_) fun _ => ?_ | refine gc_N (fun _ => ?_) fun _ => ?_ | refine aT ?_ | refine gc_B (fun _ => ?_) fun _ => ?_) | fail)
  rw [beq_self_eq_true]
 ·unfold Node.v
  ((first | refine aJ ?_ | skip); refine cB (cf := eL) rfl rfl rfl rfl ?_; unfold eL; dsimp only [aC, Nat.reduceAdd, Nat.zero_add])
  repeat' (first | refine aS ?_ | refine yc ?_ (ha := by first | exact G3 | assumption) | (show zn; refine aA ?_ (ha := by first | exact G3 | assumption)) | (show gA; first | refine aH (fun _ => ?_) fun _ => ?_ | refine gc_E (fun _ => ?_) fun _ => ?_ | refine gc_N (fun _ => ?_) fun _ => ?_ | refine aT ?_ | refine gc_B (fun _ => ?_) fun _ => ?_) | fail)
  all_goals rfl
end Go.Abs
