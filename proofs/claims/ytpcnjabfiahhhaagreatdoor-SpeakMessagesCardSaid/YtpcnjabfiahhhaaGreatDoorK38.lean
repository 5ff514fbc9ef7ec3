/- A part of the proof of RowSpeakOffers, RowSpeakMessages: lemmas alone, without conditions. -/
import Derived.Test.YtpcnjabfiahhhaaGreatDoorK33
set_option linter.all false
namespace Go.Abs
open Go.Proofs.YtpcnjabfiahhhaaGreatDoor
section
variable {s : Option Nat} {H : aC} (x : Nums)
theorem bBi : Call tab s eR [(bM 4 x).v] H = some (.tup [.int .i64 0, .int .i64 0], H) := aD.2 ⟨60, by kernel_rfl⟩
theorem aPi : Call tab s bS [(bM 4 x).v] H = some (.tup [.int .i64 0, .int .i64 0], H) := aD.2 ⟨60, by kernel_rfl⟩
theorem aPj : Call tab s bP [(bM 4 x).v, .int .i64 ((0 : Nat) : Int)] H = some (.sl (some 4) (aE 4 0).length (enL (aE 4 0)), H) := aD.2 ⟨60, by kernel_rfl⟩
theorem aSr : Call tab s bK [(bM 4 x).v, .int .i64 ((0 : Nat) : Int), .sl none (aE 4 0).length (enL (aE 4 0))] H = some (.sl none (aN 4 0).length (enL (aN 4 0)), H) := aD.2 ⟨60, by kernel_rfl⟩
theorem aGc : Call tab s bJ [(bM 4 x).v, .int .i64 ((0 : Nat) : Int)] H = some (.sl (some 4) (aE 4 0).length (enL (aE 4 0)), H) := aD.2 ⟨60, by kernel_rfl⟩
theorem aPk : Call tab s bL [(bM 4 x).v, .int .i64 ((0 : Nat) : Int)] H = some (.int .i64 (aE 4 0).length, H) := aD.2 ⟨60, by kernel_rfl⟩
theorem aPl : Call tab s bP [(bM 4 x).v, .int .i64 ((1 : Nat) : Int)] H = some (.sl (some 4) (aE 4 1).length (enL (aE 4 1)), H) := aD.2 ⟨60, by kernel_rfl⟩
theorem aSs : Call tab s bK [(bM 4 x).v, .int .i64 ((1 : Nat) : Int), .sl none (aE 4 1).length (enL (aE 4 1))] H = some (.sl none (aN 4 1).length (enL (aN 4 1)), H) := aD.2 ⟨60, by kernel_rfl⟩
theorem aGd : Call tab s bJ [(bM 4 x).v, .int .i64 ((1 : Nat) : Int)] H = some (.sl (some 4) (aE 4 1).length (enL (aE 4 1)), H) := aD.2 ⟨60, by kernel_rfl⟩
theorem aPm : Call tab s bL [(bM 4 x).v, .int .i64 ((1 : Nat) : Int)] H = some (.int .i64 (aE 4 1).length, H) := aD.2 ⟨60, by kernel_rfl⟩
theorem aPn : Call tab s bP [(bM 4 x).v, .int .i64 ((2 : Nat) : Int)] H = some (.sl (some 4) (aE 4 2).length (enL (aE 4 2)), H) := aD.2 ⟨60, by kernel_rfl⟩
theorem aSu : Call tab s bK [(bM 4 x).v, .int .i64 ((2 : Nat) : Int), .sl none (aE 4 2).length (enL (aE 4 2))] H = some (.sl none (aN 4 2).length (enL (aN 4 2)), H) := aD.2 ⟨60, by kernel_rfl⟩
theorem aGe : Call tab s bJ [(bM 4 x).v, .int .i64 ((2 : Nat) : Int)] H = some (.sl (some 4) (aE 4 2).length (enL (aE 4 2)), H) := aD.2 ⟨60, by kernel_rfl⟩
theorem aPo : Call tab s bL [(bM 4 x).v, .int .i64 ((2 : Nat) : Int)] H = some (.int .i64 (aE 4 2).length, H) := aD.2 ⟨60, by kernel_rfl⟩
theorem bBj : Call tab s eR [(bM 5 x).v] H = some (.tup [.int .i64 0, .int .i64 0], H) := aD.2 ⟨60, by kernel_rfl⟩
theorem aPp : Call tab s bS [(bM 5 x).v] H = some (.tup [.int .i64 0, .int .i64 0], H) := aD.2 ⟨60, by kernel_rfl⟩
theorem aPq : Call tab s bP [(bM 5 x).v, .int .i64 ((0 : Nat) : Int)] H = some (.sl (some 4) (aE 5 0).length (enL (aE 5 0)), H) := aD.2 ⟨60, by kernel_rfl⟩
theorem aSv : Call tab s bK [(bM 5 x).v, .int .i64 ((0 : Nat) : Int), .sl none (aE 5 0).length (enL (aE 5 0))] H = some (.sl none (aN 5 0).length (enL (aN 5 0)), H) := aD.2 ⟨60, by kernel_rfl⟩
theorem aGf : Call tab s bJ [(bM 5 x).v, .int .i64 ((0 : Nat) : Int)] H = some (.sl (some 4) (aE 5 0).length (enL (aE 5 0)), H) := aD.2 ⟨60, by kernel_rfl⟩
theorem aPr : Call tab s bL [(bM 5 x).v, .int .i64 ((0 : Nat) : Int)] H = some (.int .i64 (aE 5 0).length, H) := aD.2 ⟨60, by kernel_rfl⟩
theorem aPs : Call tab s bP [(bM 5 x).v, .int .i64 ((1 : Nat) : Int)] H = some (.sl (some 4) (aE 5 1).length (enL (aE 5 1)), H) := aD.2 ⟨60, by kernel_rfl⟩
theorem aSw : Call tab s bK [(bM 5 x).v, .int .i64 ((1 : Nat) : Int), .sl none (aE 5 1).length (enL (aE 5 1))] H = some (.sl none (aN 5 1).length (enL (aN 5 1)), H) := aD.2 ⟨60, by kernel_rfl⟩
theorem aGg : Call tab s bJ [(bM 5 x).v, .int .i64 ((1 : Nat) : Int)] H = some (.sl (some 4) (aE 5 1).length (enL (aE 5 1)), H) := aD.2 ⟨60, by kernel_rfl⟩
theorem aPt : Call tab s bL [(bM 5 x).v, .int .i64 ((1 : Nat) : Int)] H = some (.int .i64 (aE 5 1).length, H) := aD.2 ⟨60, by kernel_rfl⟩
theorem aPu : Call tab s bP [(bM 5 x).v, .int .i64 ((2 : Nat) : Int)] H = some (.sl (some 4) (aE 5 2).length (enL (aE 5 2)), H) := aD.2 ⟨60, by kernel_rfl⟩
theorem aSx : Call tab s bK [(bM 5 x).v, .int .i64 ((2 : Nat) : Int), .sl none (aE 5 2).length (enL (aE 5 2))] H = some (.sl none (aN 5 2).length (enL (aN 5 2)), H) := aD.2 ⟨60, by kernel_rfl⟩
theorem aGh : Call tab s bJ [(bM 5 x).v, .int .i64 ((2 : Nat) : Int)] H = some (.sl (some 4) (aE 5 2).length (enL (aE 5 2)), H) := aD.2 ⟨60, by kernel_rfl⟩
theorem aPv : Call tab s bL [(bM 5 x).v, .int .i64 ((2 : Nat) : Int)] H = some (.int .i64 (aE 5 2).length, H) := aD.2 ⟨60, by kernel_rfl⟩
theorem aPw : Call tab s bP [(bM 5 x).v, .int .i64 ((3 : Nat) : Int)] H = some (.sl (some 4) (aE 5 3).length (enL (aE 5 3)), H) := aD.2 ⟨60, by kernel_rfl⟩
theorem aSy : Call tab s bK [(bM 5 x).v, .int .i64 ((3 : Nat) : Int), .sl none (aE 5 3).length (enL (aE 5 3))] H = some (.sl none (aN 5 3).length (enL (aN 5 3)), H) := aD.2 ⟨60, by kernel_rfl⟩
theorem aGi : Call tab s bJ [(bM 5 x).v, .int .i64 ((3 : Nat) : Int)] H = some (.sl (some 4) (aE 5 3).length (enL (aE 5 3)), H) := aD.2 ⟨60, by kernel_rfl⟩
theorem aPx : Call tab s bL [(bM 5 x).v, .int .i64 ((3 : Nat) : Int)] H = some (.int .i64 (aE 5 3).length, H) := aD.2 ⟨60, by kernel_rfl⟩
end
end Go.Abs
namespace Go.Abs
open Go.Proofs.YtpcnjabfiahhhaaGreatDoor
attribute [local irreducible] enL R RR fP fB pX fK fQ pU apply fT gQ bW bZ eJ bR iL bG bD eC cR kD dO V.rb V.rbL
theorem aJ8 {x : Nums} (h : NumOK 3 x) : Net (bM 4 x) (aE 4) (aN 4) where
 n1 := by show 1 ≤ 3 ∧ 3 ≤ 4; decide
 chk := fun s H => bBi x
 rchk := fun s H => aPi x
 ends := fun s H p hp => by
  have hp2 : p < 3 := hp
  rcases (show p = 0 ∨ p = 1 ∨ p = 2 by omega) with rfl | rfl | rfl
  ·exact aPj x
  ·exact aPl x
  ·exact aPn x
 lst := fun s H p hp => by
  have hp2 : p < 3 := hp
  rcases (show p = 0 ∨ p = 1 ∨ p = 2 by omega) with rfl | rfl | rfl
  ·exact aSr x
  ·exact aSs x
  ·exact aSu x
 rprt := fun s H p hp => by
  have hp2 : p < 3 := hp
  rcases (show p = 0 ∨ p = 1 ∨ p = 2 by omega) with rfl | rfl | rfl
  ·exact aGc x
  ·exact aGd x
  ·exact aGe x
 rcnt := fun s H p hp => by
  have hp2 : p < 3 := hp
  rcases (show p = 0 ∨ p = 1 ∨ p = 2 by omega) with rfl | rfl | rfl
  ·exact aPk x
  ·exact aPm x
  ·exact aPo x
 room := fun p hp => by
  have hp2 : p < 3 := hp
  rcases (show p = 0 ∨ p = 1 ∨ p = 2 by omega) with rfl | rfl | rfl
  all_goals exact of_decide_eq_true (by kernel_rfl)
 cy := h.cy
 dr := h.dr
 ld := rfl
 sl := rfl
 rt := rfl
 rm := rfl
 wi := h.wi
 lo := h.lo
 ag := h.ag
 li := h.li
 sp := h.sp
theorem aO2 {x : Nums} (h : NumOK 3 x) {s : Option Nat} {H : aC} : Call tab s bF [(bM 4 x).v, .int .i64 ((0 : Nat) : Int)] H = some (.sl none (aN 4 0).length (enL (aN 4 0)), H) := by
 have h1 := fun s H => fH (s := s) (H := H) (aJ8 h) (p := ((0 : Nat) : Int))
 have h2 := fun s H => aGc (s := s) (H := H) x
 have hd : decide (0 ≤ ((0 : Nat) : Int) ∧ ((0 : Nat) : Int) < (bM 4 x).parts.length) = true := by
  show decide (0 ≤ ((0 : Nat) : Int) ∧ ((0 : Nat) : Int) < ((3 : Nat) : Int)) = true
  decide
 simp only [hd] at h1
 unfold Config.v at *
 ((first | refine aJ ?_ | skip); refine bX (cf := aM) rfl rfl rfl rfl ?_; unfold aM; dsimp only [aB, Nat.reduceAdd, Nat.zero_add])
 repeat' (first | refine aS ?_ | refine yc ?_ (ha := by first | exact h1 _ _ | assumption) | (show zn; refine aA ?_ (ha := by first | exact h1 _ _ | assumption)) | (show gA; first | refine aH (fun _ => ?_) fun _ => ?_ | refine gc_E (fun _ => ?_) fun _ => ?_ | refine gc_N (fun _ => ?_) fun _ => ?_ | refine aT ?_ | refine gc_B (fun _ => ?_) fun _ => ?_) | fail)
 refine dE ?_ (ha := h2 _ _)
 refine qP ?_
 refine jP ?_
 refine cF ?_
 exact dU 60 (by kernel_rfl) ⟨rfl⟩
theorem aO3 {x : Nums} (h : NumOK 3 x) {s : Option Nat} {H : aC} : Call tab s bF [(bM 4 x).v, .int .i64 ((1 : Nat) : Int)] H = some (.sl none (aN 4 1).length (enL (aN 4 1)), H) := by
 have h1 := fun s H => fH (s := s) (H := H) (aJ8 h) (p := ((1 : Nat) : Int))
 have h2 := fun s H => aGd (s := s) (H := H) x
 have hd : decide (0 ≤ ((1 : Nat) : Int) ∧ ((1 : Nat) : Int) < (bM 4 x).parts.length) = true := by
  show decide (0 ≤ ((1 : Nat) : Int) ∧ ((1 : Nat) : Int) < ((3 : Nat) : Int)) = true
  decide
 simp only [hd] at h1
 unfold Config.v at *
 ((first | refine aJ ?_ | skip); refine bX (cf := aM) rfl rfl rfl rfl ?_; unfold aM; dsimp only [aB, Nat.reduceAdd, Nat.zero_add])
 repeat' (first | refine aS ?_ | refine yc ?_ (ha := by first | exact h1 _ _ | assumption) | (show zn; refine aA ?_ (ha := by first | exact h1 _ _ | assumption)) | (show gA; first | refine aH (fun _ => ?_) fun _ => ?_ | refine gc_E (fun _ => ?_) fun _ => ?_ | refine gc_N (fun _ => ?_) fun _ => ?_ | refine aT ?_ | refine gc_B (fun _ => ?_) fun _ => ?_) | fail)
 refine dE ?_ (ha := h2 _ _)
 refine qP ?_
 refine jP ?_
 refine cF ?_
 exact dU 60 (by kernel_rfl) ⟨rfl⟩
theorem aO4 {x : Nums} (h : NumOK 3 x) {s : Option Nat} {H : aC} : Call tab s bF [(bM 4 x).v, .int .i64 ((2 : Nat) : Int)] H = some (.sl none (aN 4 2).length (enL (aN 4 2)), H) := by
 have h1 := fun s H => fH (s := s) (H := H) (aJ8 h) (p := ((2 : Nat) : Int))
 have h2 := fun s H => aGe (s := s) (H := H) x
 have hd : decide (0 ≤ ((2 : Nat) : Int) ∧ ((2 : Nat) : Int) < (bM 4 x).parts.length) = true := by
  show decide (0 ≤ ((2 : Nat) : Int) ∧ ((2 : Nat) : Int) < ((3 : Nat) : Int)) = true
  decide
 simp only [hd] at h1
 unfold Config.v at *
 ((first | refine aJ ?_ | skip); refine bX (cf := aM) rfl rfl rfl rfl ?_; unfold aM; dsimp only [aB, Nat.reduceAdd, Nat.zero_add])
 repeat' (first | refine aS ?_ | refine yc ?_ (ha := by first | exact h1 _ _ | assumption) | (show zn; refine aA ?_ (ha := by first | exact h1 _ _ | assumption)) | (show gA; first | refine aH (fun _ => ?_) fun _ => ?_ | refine gc_E (fun _ => ?_) fun _ => ?_ | refine gc_N (fun _ => ?_) fun _ => ?_ | refine aT ?_ | refine gc_B (fun _ => ?_) fun _ => ?_) | fail)
 refine dE ?_ (ha := h2 _ _)
 refine qP ?_
 refine jP ?_
 refine cF ?_
 exact dU 60 (by kernel_rfl) ⟨rfl⟩
theorem aWb {x : Nums} (h : NumOK 3 x) : NetR (bM 4 x) (aE 4) (aN 4) := ⟨aJ8 h, fun s H p hp => by
 have hp2 : p < 3 := hp
 rcases (show p = 0 ∨ p = 1 ∨ p = 2 by omega) with rfl | rfl | rfl
 ·exact aO2 h
 ·exact aO3 h
 ·exact aO4 h⟩
theorem aFm {x : Nums} (h : NumOK 4 x) : Net (bM 5 x) (aE 5) (aN 5) where
 n1 := by show 1 ≤ 4 ∧ 4 ≤ 4; decide
 chk := fun s H => bBj x
 rchk := fun s H => aPp x
 ends := fun s H p hp => by
  have hp2 : p < 4 := hp
  rcases (show p = 0 ∨ p = 1 ∨ p = 2 ∨ p = 3 by omega) with rfl | rfl | rfl | rfl
  ·exact aPq x
  ·exact aPs x
  ·exact aPu x
  ·exact aPw x
 lst := fun s H p hp => by
  have hp2 : p < 4 := hp
  rcases (show p = 0 ∨ p = 1 ∨ p = 2 ∨ p = 3 by omega) with rfl | rfl | rfl | rfl
  ·exact aSv x
  ·exact aSw x
  ·exact aSx x
  ·exact aSy x
 rprt := fun s H p hp => by
  have hp2 : p < 4 := hp
  rcases (show p = 0 ∨ p = 1 ∨ p = 2 ∨ p = 3 by omega) with rfl | rfl | rfl | rfl
  ·exact aGf x
  ·exact aGg x
  ·exact aGh x
  ·exact aGi x
 rcnt := fun s H p hp => by
  have hp2 : p < 4 := hp
  rcases (show p = 0 ∨ p = 1 ∨ p = 2 ∨ p = 3 by omega) with rfl | rfl | rfl | rfl
  ·exact aPr x
  ·exact aPt x
  ·exact aPv x
  ·exact aPx x
 room := fun p hp => by
  have hp2 : p < 4 := hp
  rcases (show p = 0 ∨ p = 1 ∨ p = 2 ∨ p = 3 by omega) with rfl | rfl | rfl | rfl
  all_goals exact of_decide_eq_true (by kernel_rfl)
 cy := h.cy
 dr := h.dr
 ld := rfl
 sl := rfl
 rt := rfl
 rm := rfl
 wi := h.wi
 lo := h.lo
 ag := h.ag
 li := h.li
 sp := h.sp
theorem aO5 {x : Nums} (h : NumOK 4 x) {s : Option Nat} {H : aC} : Call tab s bF [(bM 5 x).v, .int .i64 ((0 : Nat) : Int)] H = some (.sl none (aN 5 0).length (enL (aN 5 0)), H) := by
 have h1 := fun s H => fH (s := s) (H := H) (aFm h) (p := ((0 : Nat) : Int))
 have h2 := fun s H => aGf (s := s) (H := H) x
 have hd : decide (0 ≤ ((0 : Nat) : Int) ∧ ((0 : Nat) : Int) < (bM 5 x).parts.length) = true := by
  show decide (0 ≤ ((0 : Nat) : Int) ∧ ((0 : Nat) : Int) < ((4 : Nat) : Int)) = true
  decide
 simp only [hd] at h1
 unfold Config.v at *
 ((first | refine aJ ?_ | skip); refine bX (cf := aM) rfl rfl rfl rfl ?_; unfold aM; dsimp only [aB, Nat.reduceAdd, Nat.zero_add])
 repeat' (first | refine aS ?_ | refine yc ?_ (ha := by first | exact h1 _ _ | assumption) | (show zn; refine aA ?_ (ha := by first | exact h1 _ _ | assumption)) | (show gA; first | refine aH (fun _ => ?_) fun _ => ?_ | refine gc_E (fun _ => ?_) fun _ => ?_ | refine gc_N (fun _ => ?_) fun _ => ?_ | refine aT ?_ | refine gc_B (fun _ => ?_) fun _ => ?_) | fail)
 refine dE ?_ (ha := h2 _ _)
 refine qP ?_
 refine jP ?_
 refine cF ?_
 exact dU 60 (by kernel_rfl) ⟨rfl⟩
theorem aO6 {x : Nums} (h : NumOK 4 x) {s : Option Nat} {H : aC} : Call tab s bF [(bM 5 x).v, .int .i64 ((1 : Nat) : Int)] H = some (.sl none (aN 5 1).length (enL (aN 5 1)), H) := by
 have h1 := fun s H => fH (s := s) (H := H) (aFm h) (p := ((1 : Nat) : Int))
 have h2 := fun s H => aGg (s := s) (H := H) x
 have hd : decide (0 ≤ ((1 : Nat) : Int) ∧ ((1 : Nat) : Int) < (bM 5 x).parts.length) = true := by
  show decide (0 ≤ ((1 : Nat) : Int) ∧ ((1 : Nat) : Int) < ((4 : Nat) : Int)) = true
  decide
 simp only [hd] at h1
 unfold Config.v at *
 ((first | refine aJ ?_ | skip); refine bX (cf := aM) rfl rfl rfl rfl ?_; unfold aM; dsimp only [aB, Nat.reduceAdd, Nat.zero_add])
 repeat' (first | refine aS ?_ | refine yc ?_ (ha := by first | exact h1 _ _ | assumption) | (show zn; refine aA ?_ (ha := by first | exact h1 _ _ | assumption)) | (show gA; first | refine aH (fun _ => ?_) fun _ => ?_ | refine gc_E (fun _ => ?_) fun _ => ?_ | refine gc_N (fun _ => ?_) fun _ => ?_ | refine aT ?_ | refine gc_B (fun _ => ?_) fun _ => ?_) | fail)
 refine dE ?_ (ha := h2 _ _)
 refine qP ?_
 refine jP ?_
 refine cF ?_
 exact dU 60 (by kernel_rfl) ⟨rfl⟩
theorem aO7 {x : Nums} (h : NumOK 4 x) {s : Option Nat} {H : aC} : Call tab s bF [(bM 5 x).v, .int .i64 ((2 : Nat) : Int)] H = some (.sl none (aN 5 2).length (enL (aN 5 2)), H) := by
 have h1 := fun s H => fH (s := s) (H := H) (aFm h) (p := ((2 : Nat) : Int))
 have h2 := fun s H => aGh (s := s) (H := H) x
 have hd : decide (0 ≤ ((2 : Nat) : Int) ∧ ((2 : Nat) : Int) < (bM 5 x).parts.length) = true := by
  show decide (0 ≤ ((2 : Nat) : Int) ∧ ((2 : Nat) : Int) < ((4 : Nat) : Int)) = true
  decide
 simp only [hd] at h1
 unfold Config.v at *
 ((first | refine aJ ?_ | skip); refine bX (cf := aM) rfl rfl rfl rfl ?_; unfold aM; dsimp only [aB, Nat.reduceAdd, Nat.zero_add])
 repeat' (first | refine aS ?_ | refine yc ?_ (ha := by first | exact h1 _ _ | assumption) | (show zn; refine aA ?_ (ha := by first | exact h1 _ _ | assumption)) | (show gA; first | refine aH (fun _ => ?_) fun _ => ?_ | refine gc_E (fun _ => ?_) fun _ => ?_ | refine gc_N (fun _ => ?_) fun _ => ?_ | refine aT ?_ | refine gc_B (fun _ => ?_) fun _ => ?_) | fail)
 refine dE ?_ (ha := h2 _ _)
 refine qP ?_
 refine jP ?_
 refine cF ?_
 exact dU 60 (by kernel_rfl) ⟨rfl⟩
theorem aO8 {x : Nums} (h : NumOK 4 x) {s : Option Nat} {H : aC} : Call tab s bF [(bM 5 x).v, .int .i64 ((3 : Nat) : Int)] H = some (.sl none (aN 5 3).length (enL (aN 5 3)), H) := by
 have h1 := fun s H => fH (s := s) (H := H) (aFm h) (p := ((3 : Nat) : Int))
 have h2 := fun s H => aGi (s := s) (H := H) x
 have hd : decide (0 ≤ ((3 : Nat) : Int) ∧ ((3 : Nat) : Int) < (bM 5 x).parts.length) = true := by
  show decide (0 ≤ ((3 : Nat) : Int) ∧ ((3 : Nat) : Int) < ((4 : Nat) : Int)) = true
  decide
 simp only [hd] at h1
 unfold Config.v at *
 ((first | refine aJ ?_ | skip); refine bX (cf := aM) rfl rfl rfl rfl ?_; unfold aM; dsimp only [aB, Nat.reduceAdd, Nat.zero_add])
 repeat' (first | refine aS ?_ | refine yc ?_ (ha := by first | exact h1 _ _ | assumption) | (show zn; refine aA ?_ (ha := by first | exact h1 _ _ | assumption)) | (show gA; first | refine aH (fun _ => ?_) fun _ => ?_ | refine gc_E (fun _ => ?_) fun _ => ?_ | refine gc_N (fun _ => ?_) fun _ => ?_ | refine aT ?_ | refine gc_B (fun _ => ?_) fun _ => ?_) | fail)
 refine dE ?_ (ha := h2 _ _)
 refine qP ?_
 refine jP ?_
 refine cF ?_
 exact dU 60 (by kernel_rfl) ⟨rfl⟩
theorem aWc {x : Nums} (h : NumOK 4 x) : NetR (bM 5 x) (aE 5) (aN 5) := ⟨aFm h, fun s H p hp => by
 have hp2 : p < 4 := hp
 rcases (show p = 0 ∨ p = 1 ∨ p = 2 ∨ p = 3 by omega) with rfl | rfl | rfl | rfl
 ·exact aO5 h
 ·exact aO6 h
 ·exact aO7 h
 ·exact aO8 h⟩
end Go.Abs
