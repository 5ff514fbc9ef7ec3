/- A part of the proof of RowSpeakOffers, RowSpeakMessages: lemmas alone, without conditions. -/
import Derived.Test.YtpcnjabfiahhhaaGreatDoorK33
set_option linter.all false
namespace Go.Abs
open Go.Proofs.YtpcnjabfiahhhaaGreatDoor
section
variable {s : Option Nat} {H : aC} (x : Nums)
theorem aXy : Call tab s eR [(bM 7 x).v] H = some (.tup [.int .i64 0, .int .i64 0], H) := aD.2 ⟨60, by kernel_rfl⟩
theorem aLw : Call tab s bS [(bM 7 x).v] H = some (.tup [.int .i64 0, .int .i64 0], H) := aD.2 ⟨60, by kernel_rfl⟩
theorem aLx : Call tab s bP [(bM 7 x).v, .int .i64 ((0 : Nat) : Int)] H = some (.sl (some 4) (aE 7 0).length (enL (aE 7 0)), H) := aD.2 ⟨60, by kernel_rfl⟩
theorem aR3 : Call tab s bK [(bM 7 x).v, .int .i64 ((0 : Nat) : Int), .sl none (aE 7 0).length (enL (aE 7 0))] H = some (.sl none (aN 7 0).length (enL (aN 7 0)), H) := aD.2 ⟨60, by kernel_rfl⟩
theorem aEt : Call tab s bJ [(bM 7 x).v, .int .i64 ((0 : Nat) : Int)] H = some (.sl (some 4) (aE 7 0).length (enL (aE 7 0)), H) := aD.2 ⟨60, by kernel_rfl⟩
theorem aLy : Call tab s bL [(bM 7 x).v, .int .i64 ((0 : Nat) : Int)] H = some (.int .i64 (aE 7 0).length, H) := aD.2 ⟨60, by kernel_rfl⟩
theorem aLz : Call tab s bP [(bM 7 x).v, .int .i64 ((1 : Nat) : Int)] H = some (.sl (some 4) (aE 7 1).length (enL (aE 7 1)), H) := aD.2 ⟨60, by kernel_rfl⟩
theorem aR4 : Call tab s bK [(bM 7 x).v, .int .i64 ((1 : Nat) : Int), .sl none (aE 7 1).length (enL (aE 7 1))] H = some (.sl none (aN 7 1).length (enL (aN 7 1)), H) := aD.2 ⟨60, by kernel_rfl⟩
theorem aEu : Call tab s bJ [(bM 7 x).v, .int .i64 ((1 : Nat) : Int)] H = some (.sl (some 4) (aE 7 1).length (enL (aE 7 1)), H) := aD.2 ⟨60, by kernel_rfl⟩
theorem aM0 : Call tab s bL [(bM 7 x).v, .int .i64 ((1 : Nat) : Int)] H = some (.int .i64 (aE 7 1).length, H) := aD.2 ⟨60, by kernel_rfl⟩
theorem aM1 : Call tab s bP [(bM 7 x).v, .int .i64 ((2 : Nat) : Int)] H = some (.sl (some 4) (aE 7 2).length (enL (aE 7 2)), H) := aD.2 ⟨60, by kernel_rfl⟩
theorem aR5 : Call tab s bK [(bM 7 x).v, .int .i64 ((2 : Nat) : Int), .sl none (aE 7 2).length (enL (aE 7 2))] H = some (.sl none (aN 7 2).length (enL (aN 7 2)), H) := aD.2 ⟨60, by kernel_rfl⟩
theorem aEv : Call tab s bJ [(bM 7 x).v, .int .i64 ((2 : Nat) : Int)] H = some (.sl (some 4) (aE 7 2).length (enL (aE 7 2)), H) := aD.2 ⟨60, by kernel_rfl⟩
theorem aM2 : Call tab s bL [(bM 7 x).v, .int .i64 ((2 : Nat) : Int)] H = some (.int .i64 (aE 7 2).length, H) := aD.2 ⟨60, by kernel_rfl⟩
theorem aM3 : Call tab s bP [(bM 7 x).v, .int .i64 ((3 : Nat) : Int)] H = some (.sl (some 4) (aE 7 3).length (enL (aE 7 3)), H) := aD.2 ⟨60, by kernel_rfl⟩
theorem aR6 : Call tab s bK [(bM 7 x).v, .int .i64 ((3 : Nat) : Int), .sl none (aE 7 3).length (enL (aE 7 3))] H = some (.sl none (aN 7 3).length (enL (aN 7 3)), H) := aD.2 ⟨60, by kernel_rfl⟩
theorem aEw : Call tab s bJ [(bM 7 x).v, .int .i64 ((3 : Nat) : Int)] H = some (.sl (some 4) (aE 7 3).length (enL (aE 7 3)), H) := aD.2 ⟨60, by kernel_rfl⟩
theorem aM4 : Call tab s bL [(bM 7 x).v, .int .i64 ((3 : Nat) : Int)] H = some (.int .i64 (aE 7 3).length, H) := aD.2 ⟨60, by kernel_rfl⟩
end
end Go.Abs
namespace Go.Abs
open Go.Proofs.YtpcnjabfiahhhaaGreatDoor
attribute [local irreducible] enL R RR fP fB pX fK fQ pU apply fT gQ bW bZ eJ bR iL bG bD eC cR kD dO V.rb V.rbL
theorem aF6 {x : Nums} (h : NumOK 4 x) : Net (bM 7 x) (aE 7) (aN 7) where
 n1 := by show 1 ≤ 4 ∧ 4 ≤ 4; decide
 chk := fun s H => aXy x
 rchk := fun s H => aLw x
 ends := fun s H p hp => by
  have hp2 : p < 4 := hp
  rcases (show p = 0 ∨ p = 1 ∨ p = 2 ∨ p = 3 by omega) with rfl | rfl | rfl | rfl
  ·exact aLx x
  ·exact aLz x
  ·exact aM1 x
  ·exact aM3 x
 lst := fun s H p hp => by
  have hp2 : p < 4 := hp
  rcases (show p = 0 ∨ p = 1 ∨ p = 2 ∨ p = 3 by omega) with rfl | rfl | rfl | rfl
  ·exact aR3 x
  ·exact aR4 x
  ·exact aR5 x
  ·exact aR6 x
 rprt := fun s H p hp => by
  have hp2 : p < 4 := hp
  rcases (show p = 0 ∨ p = 1 ∨ p = 2 ∨ p = 3 by omega) with rfl | rfl | rfl | rfl
  ·exact aEt x
  ·exact aEu x
  ·exact aEv x
  ·exact aEw x
 rcnt := fun s H p hp => by
  have hp2 : p < 4 := hp
  rcases (show p = 0 ∨ p = 1 ∨ p = 2 ∨ p = 3 by omega) with rfl | rfl | rfl | rfl
  ·exact aLy x
  ·exact aM0 x
  ·exact aM2 x
  ·exact aM4 x
 room := fun p hp => by
  have hp2 : p < 4 := hp
  rcases (show p = 0 ∨ p = 1 ∨ p = 2 ∨ p = 3 by omega) with rfl | rfl | rfl | rfl
  all_goals exact of_decide_eq_true (by kernel_rfl)
 cy := h.cy
 dr := h.dr
 ld := rfl
 sl := rfl
 rt := rfl
 rm := rfl
 wi := h.wi
 lo := h.lo
 ag := h.ag
 li := h.li
 sp := h.sp
theorem aN7 {x : Nums} (h : NumOK 4 x) {s : Option Nat} {H : aC} : Call tab s bF [(bM 7 x).v, .int .i64 ((0 : Nat) : Int)] H = some (.sl none (aN 7 0).length (enL (aN 7 0)), H) := by
 have h1 := fun s H => fH (s := s) (H := H) (aF6 h) (p := ((0 : Nat) : Int))
 have h2 := fun s H => aEt (s := s) (H := H) x
 have hd : decide (0 ≤ ((0 : Nat) : Int) ∧ ((0 : Nat) : Int) < (bM 7 x).parts.length) = true := by
  show decide (0 ≤ ((0 : Nat) : Int) ∧ ((0 : Nat) : Int) < ((4 : Nat) : Int)) = true
  decide
 simp only [hd] at h1
 unfold Config.v at *
 ((first | refine aJ ?_ | skip); refine bX (cf := aM) rfl rfl rfl rfl ?_; unfold aM; dsimp only [aB, Nat.reduceAdd, Nat.zero_add])
 repeat' (first | refine aS ?_ | refine yc ?_ (ha := by first | exact h1 _ _ | assumption) | (show zn; refine aA ?_ (ha := by first | exact h1 _ _ | assumption)) | (show gA; first | refine aH (fun _ => ?_) fun _ => ?_ | refine gc_E (fun _ => ?_) fun _ => ?_ | refine gc_N (fun _ => ?_) fun _ => ?_ | refine aT ?_ | refine gc_B (fun _ => ?_) fun _ => ?_) | fail)
 refine dE ?_ (ha := h2 _ _)
 refine qP ?_
 refine jP ?_
 refine cF ?_
 exact dU 60 (by kernel_rfl) ⟨rfl⟩
theorem aN8 {x : Nums} (h : NumOK 4 x) {s : Option Nat} {H : aC} : Call tab s bF [(bM 7 x).v, .int .i64 ((1 : Nat) : Int)] H = some (.sl none (aN 7 1).length (enL (aN 7 1)), H) := by
 have h1 := fun s H => fH (s := s) (H := H) (aF6 h) (p := ((1 : Nat) : Int))
 have h2 := fun s H => aEu (s := s) (H := H) x
 have hd : decide (0 ≤ ((1 : Nat) : Int) ∧ ((1 : Nat) : Int) < (bM 7 x).parts.length) = true := by
  show decide (0 ≤ ((1 : Nat) : Int) ∧ ((1 : Nat) : Int) < ((4 : Nat) : Int)) = true
  decide
 simp only [hd] at h1
 unfold Config.v at *
 ((first | refine aJ ?_ | skip); refine bX (cf := aM) rfl rfl rfl rfl ?_; unfold aM; dsimp only [aB, Nat.reduceAdd, Nat.zero_add])
 repeat' (first | refine aS ?_ | refine yc ?_ (ha := by first | exact h1 _ _ | assumption) | (show zn; refine aA ?_ (ha := by first | exact h1 _ _ | assumption)) | (show gA; first | refine aH (fun _ => ?_) fun _ => ?_ | refine gc_E (fun _ => ?_) fun _ => ?_ | refine gc_N (fun _ => ?_) fun _ => ?_ | refine aT ?_ | refine gc_B (fun _ => ?_) fun _ => ?_) | fail)
 refine dE ?_ (ha := h2 _ _)
 refine qP ?_
 refine jP ?_
 refine cF ?_
 exact dU 60 (by kernel_rfl) ⟨rfl⟩
theorem aN9 {x : Nums} (h : NumOK 4 x) {s : Option Nat} {H : aC} : Call tab s bF [(bM 7 x).v, .int .i64 ((2 : Nat) : Int)] H = some (.sl none (aN 7 2).length (enL (aN 7 2)), H) := by
 have h1 := fun s H => fH (s := s) (H := H) (aF6 h) (p := ((2 : Nat) : Int))
 have h2 := fun s H => aEv (s := s) (H := H) x
 have hd : decide (0 ≤ ((2 : Nat) : Int) ∧ ((2 : Nat) : Int) < (bM 7 x).parts.length) = true := by
  show decide (0 ≤ ((2 : Nat) : Int) ∧ ((2 : Nat) : Int) < ((4 : Nat) : Int)) = true
  decide
 simp only [hd] at h1
 unfold Config.v at *
 ((first | refine aJ ?_ | skip); refine bX (cf := aM) rfl rfl rfl rfl ?_; unfold aM; dsimp only [aB, Nat.reduceAdd, Nat.zero_add])
 repeat' (first | refine aS ?_ | refine yc ?_ (ha := by first | exact h1 _ _ | assumption) | (show zn; refine aA ?_ (ha := by first | exact h1 _ _ | assumption)) | (show gA; first | refine aH (fun _ => ?_) fun _ => ?_ | refine gc_E (fun _ => ?_) fun _ => ?_ | refine gc_N (fun _ => ?_) fun _ => ?_ | refine aT ?_ | refine gc_B (fun _ => ?_) fun _ => ?_) | fail)
 refine dE ?_ (ha := h2 _ _)
 refine qP ?_
 refine jP ?_
 refine cF ?_
 exact dU 60 (by kernel_rfl) ⟨rfl⟩
theorem aNa {x : Nums} (h : NumOK 4 x) {s : Option Nat} {H : aC} : Call tab s bF [(bM 7 x).v, .int .i64 ((3 : Nat) : Int)] H = some (.sl none (aN 7 3).length (enL (aN 7 3)), H) := by
 have h1 := fun s H => fH (s := s) (H := H) (aF6 h) (p := ((3 : Nat) : Int))
 have h2 := fun s H => aEw (s := s) (H := H) x
 have hd : decide (0 ≤ ((3 : Nat) : Int) ∧ ((3 : Nat) : Int) < (bM 7 x).parts.length) = true := by
  show decide (0 ≤ ((3 : Nat) : Int) ∧ ((3 : Nat) : Int) < ((4 : Nat) : Int)) = true
  decide
 simp only [hd] at h1
 unfold Config.v at *
 ((first | refine aJ ?_ | skip); refine bX (cf := aM) rfl rfl rfl rfl ?_; unfold aM; dsimp only [aB, Nat.reduceAdd, Nat.zero_add])
 repeat' (first | refine aS ?_ | refine yc ?_ (ha := by first | exact h1 _ _ | assumption) | (show zn; refine aA ?_ (ha := by first | exact h1 _ _ | assumption)) | (show gA; first | refine aH (fun _ => ?_) fun _ => ?_ | refine gc_E (fun _ => ?_) fun _ => ?_ | refine gc_N (fun _ => ?_) fun _ => ?_ | refine aT ?_ | refine gc_B (fun _ => ?_) fun _ => ?_) | fail)
 refine dE ?_ (ha := h2 _ _)
 refine qP ?_
 refine jP ?_
 refine cF ?_
 exact dU 60 (by kernel_rfl) ⟨rfl⟩
theorem aVa {x : Nums} (h : NumOK 4 x) : NetR (bM 7 x) (aE 7) (aN 7) := ⟨aF6 h, fun s H p hp => by
 have hp2 : p < 4 := hp
 rcases (show p = 0 ∨ p = 1 ∨ p = 2 ∨ p = 3 by omega) with rfl | rfl | rfl | rfl
 ·exact aN7 h
 ·exact aN8 h
 ·exact aN9 h
 ·exact aNa h⟩
end Go.Abs
