/- A part of the proof of RowSpeakSync: lemmas alone, without conditions. -/
import Derived.Test.YtpcnjabfiahhhaaGreatDoorJ33
set_option linter.all false
namespace Go.Abs
open Go.Proofs.YtpcnjabfiahhhaaGreatDoor
section
variable {s : Option Nat} {H : aB} (x : Nums)
theorem aY5 : Call tab s eB [(bP 4 x).v] H = some (.tup [.int .i64 0, .int .i64 0], H) := aE.2 ⟨60, by kernel_rfl⟩
theorem aMm : Call tab s bM [(bP 4 x).v] H = some (.tup [.int .i64 0, .int .i64 0], H) := aE.2 ⟨60, by kernel_rfl⟩
theorem aMo : Call tab s bI [(bP 4 x).v, .int .i64 ((0 : Nat) : Int)] H = some (.sl (some 4) (aG 4 0).length (enL (aG 4 0)), H) := aE.2 ⟨60, by kernel_rfl⟩
theorem aQf : Call tab s bE [(bP 4 x).v, .int .i64 ((0 : Nat) : Int), .sl none (aG 4 0).length (enL (aG 4 0))] H = some (.sl none (aN 4 0).length (enL (aN 4 0)), H) := aE.2 ⟨60, by kernel_rfl⟩
theorem aEd : Call tab s bD [(bP 4 x).v, .int .i64 ((0 : Nat) : Int)] H = some (.sl (some 4) (aG 4 0).length (enL (aG 4 0)), H) := aE.2 ⟨60, by kernel_rfl⟩
theorem aMp : Call tab s bF [(bP 4 x).v, .int .i64 ((0 : Nat) : Int)] H = some (.int .i64 (aG 4 0).length, H) := aE.2 ⟨60, by kernel_rfl⟩
theorem aMq : Call tab s bI [(bP 4 x).v, .int .i64 ((1 : Nat) : Int)] H = some (.sl (some 4) (aG 4 1).length (enL (aG 4 1)), H) := aE.2 ⟨60, by kernel_rfl⟩
theorem aQg : Call tab s bE [(bP 4 x).v, .int .i64 ((1 : Nat) : Int), .sl none (aG 4 1).length (enL (aG 4 1))] H = some (.sl none (aN 4 1).length (enL (aN 4 1)), H) := aE.2 ⟨60, by kernel_rfl⟩
theorem aEe : Call tab s bD [(bP 4 x).v, .int .i64 ((1 : Nat) : Int)] H = some (.sl (some 4) (aG 4 1).length (enL (aG 4 1)), H) := aE.2 ⟨60, by kernel_rfl⟩
theorem aMr : Call tab s bF [(bP 4 x).v, .int .i64 ((1 : Nat) : Int)] H = some (.int .i64 (aG 4 1).length, H) := aE.2 ⟨60, by kernel_rfl⟩
theorem aMs : Call tab s bI [(bP 4 x).v, .int .i64 ((2 : Nat) : Int)] H = some (.sl (some 4) (aG 4 2).length (enL (aG 4 2)), H) := aE.2 ⟨60, by kernel_rfl⟩
theorem aQh : Call tab s bE [(bP 4 x).v, .int .i64 ((2 : Nat) : Int), .sl none (aG 4 2).length (enL (aG 4 2))] H = some (.sl none (aN 4 2).length (enL (aN 4 2)), H) := aE.2 ⟨60, by kernel_rfl⟩
theorem aEf : Call tab s bD [(bP 4 x).v, .int .i64 ((2 : Nat) : Int)] H = some (.sl (some 4) (aG 4 2).length (enL (aG 4 2)), H) := aE.2 ⟨60, by kernel_rfl⟩
theorem aMt : Call tab s bF [(bP 4 x).v, .int .i64 ((2 : Nat) : Int)] H = some (.int .i64 (aG 4 2).length, H) := aE.2 ⟨60, by kernel_rfl⟩
theorem aY6 : Call tab s eB [(bP 5 x).v] H = some (.tup [.int .i64 0, .int .i64 0], H) := aE.2 ⟨60, by kernel_rfl⟩
theorem aMu : Call tab s bM [(bP 5 x).v] H = some (.tup [.int .i64 0, .int .i64 0], H) := aE.2 ⟨60, by kernel_rfl⟩
theorem aMv : Call tab s bI [(bP 5 x).v, .int .i64 ((0 : Nat) : Int)] H = some (.sl (some 4) (aG 5 0).length (enL (aG 5 0)), H) := aE.2 ⟨60, by kernel_rfl⟩
theorem aQi : Call tab s bE [(bP 5 x).v, .int .i64 ((0 : Nat) : Int), .sl none (aG 5 0).length (enL (aG 5 0))] H = some (.sl none (aN 5 0).length (enL (aN 5 0)), H) := aE.2 ⟨60, by kernel_rfl⟩
theorem aEg : Call tab s bD [(bP 5 x).v, .int .i64 ((0 : Nat) : Int)] H = some (.sl (some 4) (aG 5 0).length (enL (aG 5 0)), H) := aE.2 ⟨60, by kernel_rfl⟩
theorem aMw : Call tab s bF [(bP 5 x).v, .int .i64 ((0 : Nat) : Int)] H = some (.int .i64 (aG 5 0).length, H) := aE.2 ⟨60, by kernel_rfl⟩
theorem aMy : Call tab s bI [(bP 5 x).v, .int .i64 ((1 : Nat) : Int)] H = some (.sl (some 4) (aG 5 1).length (enL (aG 5 1)), H) := aE.2 ⟨60, by kernel_rfl⟩
theorem aQj : Call tab s bE [(bP 5 x).v, .int .i64 ((1 : Nat) : Int), .sl none (aG 5 1).length (enL (aG 5 1))] H = some (.sl none (aN 5 1).length (enL (aN 5 1)), H) := aE.2 ⟨60, by kernel_rfl⟩
theorem aEh : Call tab s bD [(bP 5 x).v, .int .i64 ((1 : Nat) : Int)] H = some (.sl (some 4) (aG 5 1).length (enL (aG 5 1)), H) := aE.2 ⟨60, by kernel_rfl⟩
theorem aMz : Call tab s bF [(bP 5 x).v, .int .i64 ((1 : Nat) : Int)] H = some (.int .i64 (aG 5 1).length, H) := aE.2 ⟨60, by kernel_rfl⟩
theorem aN0 : Call tab s bI [(bP 5 x).v, .int .i64 ((2 : Nat) : Int)] H = some (.sl (some 4) (aG 5 2).length (enL (aG 5 2)), H) := aE.2 ⟨60, by kernel_rfl⟩
theorem aQk : Call tab s bE [(bP 5 x).v, .int .i64 ((2 : Nat) : Int), .sl none (aG 5 2).length (enL (aG 5 2))] H = some (.sl none (aN 5 2).length (enL (aN 5 2)), H) := aE.2 ⟨60, by kernel_rfl⟩
theorem aEi : Call tab s bD [(bP 5 x).v, .int .i64 ((2 : Nat) : Int)] H = some (.sl (some 4) (aG 5 2).length (enL (aG 5 2)), H) := aE.2 ⟨60, by kernel_rfl⟩
theorem aN1 : Call tab s bF [(bP 5 x).v, .int .i64 ((2 : Nat) : Int)] H = some (.int .i64 (aG 5 2).length, H) := aE.2 ⟨60, by kernel_rfl⟩
theorem aN2 : Call tab s bI [(bP 5 x).v, .int .i64 ((3 : Nat) : Int)] H = some (.sl (some 4) (aG 5 3).length (enL (aG 5 3)), H) := aE.2 ⟨60, by kernel_rfl⟩
theorem aQl : Call tab s bE [(bP 5 x).v, .int .i64 ((3 : Nat) : Int), .sl none (aG 5 3).length (enL (aG 5 3))] H = some (.sl none (aN 5 3).length (enL (aN 5 3)), H) := aE.2 ⟨60, by kernel_rfl⟩
theorem aEj : Call tab s bD [(bP 5 x).v, .int .i64 ((3 : Nat) : Int)] H = some (.sl (some 4) (aG 5 3).length (enL (aG 5 3)), H) := aE.2 ⟨60, by kernel_rfl⟩
theorem aN3 : Call tab s bF [(bP 5 x).v, .int .i64 ((3 : Nat) : Int)] H = some (.int .i64 (aG 5 3).length, H) := aE.2 ⟨60, by kernel_rfl⟩
end
end Go.Abs
namespace Go.Abs
open Go.Proofs.YtpcnjabfiahhhaaGreatDoor
attribute [local irreducible] enL R RR gT fU rC gG gU qS apply fW gZ bQ cC fB bN iN bK bG eS cV lA dU V.rb V.rbL
theorem aI1 {x : Nums} (h : NumOK 3 x) : Net (bP 4 x) (aG 4) (aN 4) where
 n1 := by show 1 ≤ 3 ∧ 3 ≤ 4; decide
 chk := fun s H => aY5 x
 rchk := fun s H => aMm x
 ends := fun s H p hp => by
  have hp2 : p < 3 := hp
  rcases (show p = 0 ∨ p = 1 ∨ p = 2 by omega) with rfl | rfl | rfl
  ·exact aMo x
  ·exact aMq x
  ·exact aMs x
 lst := fun s H p hp => by
  have hp2 : p < 3 := hp
  rcases (show p = 0 ∨ p = 1 ∨ p = 2 by omega) with rfl | rfl | rfl
  ·exact aQf x
  ·exact aQg x
  ·exact aQh x
 rprt := fun s H p hp => by
  have hp2 : p < 3 := hp
  rcases (show p = 0 ∨ p = 1 ∨ p = 2 by omega) with rfl | rfl | rfl
  ·exact aEd x
  ·exact aEe x
  ·exact aEf x
 rcnt := fun s H p hp => by
  have hp2 : p < 3 := hp
  rcases (show p = 0 ∨ p = 1 ∨ p = 2 by omega) with rfl | rfl | rfl
  ·exact aMp x
  ·exact aMr x
  ·exact aMt x
 room := fun p hp => by
  have hp2 : p < 3 := hp
  rcases (show p = 0 ∨ p = 1 ∨ p = 2 by omega) with rfl | rfl | rfl
  all_goals exact of_decide_eq_true (by kernel_rfl)
 cy := h.cy
 dr := h.dr
 ld := rfl
 sl := rfl
 rt := rfl
 rm := rfl
 wi := h.wi
 lo := h.lo
 ag := h.ag
 li := h.li
 sp := h.sp
theorem aOa {x : Nums} (h : NumOK 3 x) {s : Option Nat} {H : aB} : Call tab s aZ [(bP 4 x).v, .int .i64 ((0 : Nat) : Int)] H = some (.sl none (aN 4 0).length (enL (aN 4 0)), H) := by
 have h1 := fun s H => eG (s := s) (H := H) (aI1 h) (p := ((0 : Nat) : Int))
 have h2 := fun s H => aEd (s := s) (H := H) x
 have hd : decide (0 ≤ ((0 : Nat) : Int) ∧ ((0 : Nat) : Int) < (bP 4 x).parts.length) = true := by
  show decide (0 ≤ ((0 : Nat) : Int) ∧ ((0 : Nat) : Int) < ((3 : Nat) : Int)) = true
  decide
 simp only [hd] at h1
 unfold Config.v at *
 ((first | refine aJ ?_ | skip); refine cB (cf := aM) rfl rfl rfl rfl ?_; unfold aM; dsimp only [aC, Nat.reduceAdd, Nat.zero_add])
 repeat' (first | refine aS ?_ | refine yc ?_ (ha := by first | exact h1 _ _ | assumption) | (show zn; refine aA ?_ (ha := by first | exact h1 _ _ | assumption)) | (show gA; first | refine aH (fun _ => ?_) fun _ => ?_ | refine gc_E (fun _ => ?_) fun _ => ?_ | refine gc_N (fun _ => ?_) fun _ => ?_ | refine aT ?_ | refine gc_B (fun _ => ?_) fun _ => ?_) | fail)
 refine cY ?_ (ha := h2 _ _)
 refine pH ?_
 refine iT ?_
 refine bX ?_
 exact dL 60 (by kernel_rfl) ⟨rfl⟩
theorem aOb {x : Nums} (h : NumOK 3 x) {s : Option Nat} {H : aB} : Call tab s aZ [(bP 4 x).v, .int .i64 ((1 : Nat) : Int)] H = some (.sl none (aN 4 1).length (enL (aN 4 1)), H) := by
 have h1 := fun s H => eG (s := s) (H := H) (aI1 h) (p := ((1 : Nat) : Int))
 have h2 := fun s H => aEe (s := s) (H := H) x
 have hd : decide (0 ≤ ((1 : Nat) : Int) ∧ ((1 : Nat) : Int) < (bP 4 x).parts.length) = true := by
  show decide (0 ≤ ((1 : Nat) : Int) ∧ ((1 : Nat) : Int) < ((3 : Nat) : Int)) = true
  decide
 simp only [hd] at h1
 unfold Config.v at *
 ((first | refine aJ ?_ | skip); refine cB (cf := aM) rfl rfl rfl rfl ?_; unfold aM; dsimp only [aC, Nat.reduceAdd, Nat.zero_add])
 repeat' (first | refine aS ?_ | refine yc ?_ (ha := by first | exact h1 _ _ | assumption) | (show zn; refine aA ?_ (ha := by first | exact h1 _ _ | assumption)) | (show gA; first | refine aH (fun _ => ?_) fun _ => ?_ | refine gc_E (fun _ => ?_) fun _ => ?_ | refine gc_N (fun _ => ?_) fun _ => ?_ | refine aT ?_ | refine gc_B (fun _ => ?_) fun _ => ?_) | fail)
 refine cY ?_ (ha := h2 _ _)
 refine pH ?_
 refine iT ?_
 refine bX ?_
 exact dL 60 (by kernel_rfl) ⟨rfl⟩
theorem aOc {x : Nums} (h : NumOK 3 x) {s : Option Nat} {H : aB} : Call tab s aZ [(bP 4 x).v, .int .i64 ((2 : Nat) : Int)] H = some (.sl none (aN 4 2).length (enL (aN 4 2)), H) := by
 have h1 := fun s H => eG (s := s) (H := H) (aI1 h) (p := ((2 : Nat) : Int))
 have h2 := fun s H => aEf (s := s) (H := H) x
 have hd : decide (0 ≤ ((2 : Nat) : Int) ∧ ((2 : Nat) : Int) < (bP 4 x).parts.length) = true := by
  show decide (0 ≤ ((2 : Nat) : Int) ∧ ((2 : Nat) : Int) < ((3 : Nat) : Int)) = true
  decide
 simp only [hd] at h1
 unfold Config.v at *
 ((first | refine aJ ?_ | skip); refine cB (cf := aM) rfl rfl rfl rfl ?_; unfold aM; dsimp only [aC, Nat.reduceAdd, Nat.zero_add])
 repeat' (first | refine aS ?_ | refine yc ?_ (ha := by first | exact h1 _ _ | assumption) | (show zn; refine aA ?_ (ha := by first | exact h1 _ _ | assumption)) | (show gA; first | refine aH (fun _ => ?_) fun _ => ?_ | refine gc_E (fun _ => ?_) fun _ => ?_ | refine gc_N (fun _ => ?_) fun _ => ?_ | refine aT ?_ | refine gc_B (fun _ => ?_) fun _ => ?_) | fail)
 refine cY ?_ (ha := h2 _ _)
 refine pH ?_
 refine iT ?_
 refine bX ?_
 exact dL 60 (by kernel_rfl) ⟨rfl⟩
theorem aUe {x : Nums} (h : NumOK 3 x) : NetR (bP 4 x) (aG 4) (aN 4) := ⟨aI1 h, fun s H p hp => by
 have hp2 : p < 3 := hp
 rcases (show p = 0 ∨ p = 1 ∨ p = 2 by omega) with rfl | rfl | rfl
 ·exact aOa h
 ·exact aOb h
 ·exact aOc h⟩
theorem aF5 {x : Nums} (h : NumOK 4 x) : Net (bP 5 x) (aG 5) (aN 5) where
 n1 := by show 1 ≤ 4 ∧ 4 ≤ 4; decide
 chk := fun s H => aY6 x
 rchk := fun s H => aMu x
 ends := fun s H p hp => by
  have hp2 : p < 4 := hp
  rcases (show p = 0 ∨ p = 1 ∨ p = 2 ∨ p = 3 by omega) with rfl | rfl | rfl | rfl
  ·exact aMv x
  ·exact aMy x
  ·exact aN0 x
  ·exact aN2 x
 lst := fun s H p hp => by
  have hp2 : p < 4 := hp
  rcases (show p = 0 ∨ p = 1 ∨ p = 2 ∨ p = 3 by omega) with rfl | rfl | rfl | rfl
  ·exact aQi x
  ·exact aQj x
  ·exact aQk x
  ·exact aQl x
 rprt := fun s H p hp => by
  have hp2 : p < 4 := hp
  rcases (show p = 0 ∨ p = 1 ∨ p = 2 ∨ p = 3 by omega) with rfl | rfl | rfl | rfl
  ·exact aEg x
  ·exact aEh x
  ·exact aEi x
  ·exact aEj x
 rcnt := fun s H p hp => by
  have hp2 : p < 4 := hp
  rcases (show p = 0 ∨ p = 1 ∨ p = 2 ∨ p = 3 by omega) with rfl | rfl | rfl | rfl
  ·exact aMw x
  ·exact aMz x
  ·exact aN1 x
  ·exact aN3 x
 room := fun p hp => by
  have hp2 : p < 4 := hp
  rcases (show p = 0 ∨ p = 1 ∨ p = 2 ∨ p = 3 by omega) with rfl | rfl | rfl | rfl
  all_goals exact of_decide_eq_true (by kernel_rfl)
 cy := h.cy
 dr := h.dr
 ld := rfl
 sl := rfl
 rt := rfl
 rm := rfl
 wi := h.wi
 lo := h.lo
 ag := h.ag
 li := h.li
 sp := h.sp
theorem aOd {x : Nums} (h : NumOK 4 x) {s : Option Nat} {H : aB} : Call tab s aZ [(bP 5 x).v, .int .i64 ((0 : Nat) : Int)] H = some (.sl none (aN 5 0).length (enL (aN 5 0)), H) := by
 have h1 := fun s H => eG (s := s) (H := H) (aF5 h) (p := ((0 : Nat) : Int))
 have h2 := fun s H => aEg (s := s) (H := H) x
 have hd : decide (0 ≤ ((0 : Nat) : Int) ∧ ((0 : Nat) : Int) < (bP 5 x).parts.length) = true := by
  show decide (0 ≤ ((0 : Nat) : Int) ∧ ((0 : Nat) : Int) < ((4 : Nat) : Int)) = true
  decide
 simp only [hd] at h1
 unfold Config.v at *
 ((first | refine aJ ?_ | skip); refine cB (cf := aM) rfl rfl rfl rfl ?_; unfold aM; dsimp only [aC, Nat.reduceAdd, Nat.zero_add])
 repeat' (first | refine aS ?_ | refine yc ?_ (ha := by first | exact h1 _ _ | assumption) | (show zn; refine aA ?_ (ha := by first | exact h1 _ _ | assumption)) | (show gA; first | refine aH (fun _ => ?_) fun _ => ?_ | refine gc_E (fun _ => ?_) fun _ => ?_ | refine gc_N (fun _ => ?_) fun _ => ?_ | refine aT ?_ | refine gc_B (fun _ => ?_) fun _ => ?_) | fail)
 refine cY ?_ (ha := h2 _ _)
 refine pH ?_
 refine iT ?_
 refine bX ?_
 exact dL 60 (by kernel_rfl) ⟨rfl⟩
theorem aOe {x : Nums} (h : NumOK 4 x) {s : Option Nat} {H : aB} : Call tab s aZ [(bP 5 x).v, .int .i64 ((1 : Nat) : Int)] H = some (.sl none (aN 5 1).length (enL (aN 5 1)), H) := by
 have h1 := fun s H => eG (s := s) (H := H) (aF5 h) (p := ((1 : Nat) : Int))
 have h2 := fun s H => aEh (s := s) (H := H) x
 have hd : decide (0 ≤ ((1 : Nat) : Int) ∧ ((1 : Nat) : Int) < (bP 5 x).parts.length) = true := by
  show decide (0 ≤ ((1 : Nat) : Int) ∧ ((1 : Nat) : Int) < ((4 : Nat) : Int)) = true
  decide
 simp only [hd] at h1
 unfold Config.v at *
 ((first | refine aJ ?_ | skip); refine cB (cf := aM) rfl rfl rfl rfl ?_; unfold aM; dsimp only [aC, Nat.reduceAdd, Nat.zero_add])
 repeat' (first | refine aS ?_ | refine yc ?_ (ha := by first | exact h1 _ _ | assumption) | (show zn; refine aA ?_ (ha := by first | exact h1 _ _ | assumption)) | (show gA; first | refine aH (fun _ => ?_) fun _ => ?_ | refine gc_E (fun _ => ?_) fun _ => ?_ | refine gc_N (fun _ => ?_) fun _ => ?_ | refine aT ?_ | refine gc_B (fun _ => ?_) fun _ => ?_) | fail)
 refine cY ?_ (ha := h2 _ _)
 refine pH ?_
 refine iT ?_
 refine bX ?_
 exact dL 60 (by kernel_rfl) ⟨rfl⟩
theorem aOf {x : Nums} (h : NumOK 4 x) {s : Option Nat} {H : aB} : Call tab s aZ [(bP 5 x).v, .int .i64 ((2 : Nat) : Int)] H = some (.sl none (aN 5 2).length (enL (aN 5 2)), H) := by
 have h1 := fun s H => eG (s := s) (H := H) (aF5 h) (p := ((2 : Nat) : Int))
 have h2 := fun s H => aEi (s := s) (H := H) x
 have hd : decide (0 ≤ ((2 : Nat) : Int) ∧ ((2 : Nat) : Int) < (bP 5 x).parts.length) = true := by
  show decide (0 ≤ ((2 : Nat) : Int) ∧ ((2 : Nat) : Int) < ((4 : Nat) : Int)) = true
  decide
 simp only [hd] at h1
 unfold Config.v at *
 ((first | refine aJ ?_ | skip); refine cB (cf := aM) rfl rfl rfl rfl ?_; unfold aM; dsimp only [aC, Nat.reduceAdd, Nat.zero_add])
 repeat' (first | refine aS ?_ | refine yc ?_ (ha := by first | exact h1 _ _ | assumption) | (show zn; refine aA ?_ (ha := by first | exact h1 _ _ | assumption)) | (show gA; first | refine aH (fun _ => ?_) fun _ => ?_ | refine gc_E (fun _ => ?_) fun _ => ?_ | refine gc_N (fun _ => ?_) fun _ => ?_ | refine aT ?_ | refine gc_B (fun _ => ?_) fun _ => ?_) | fail)
 refine cY ?_ (ha := h2 _ _)
 refine pH ?_
 refine iT ?_
 refine bX ?_
 exact dL 60 (by kernel_rfl) ⟨rfl⟩
theorem aOg {x : Nums} (h : NumOK 4 x) {s : Option Nat} {H : aB} : Call tab s aZ [(bP 5 x).v, .int .i64 ((3 : Nat) : Int)] H = some (.sl none (aN 5 3).length (enL (aN 5 3)), H) := by
 have h1 := fun s H => eG (s := s) (H := H) (aF5 h) (p := ((3 : Nat) : Int))
 have h2 := fun s H => aEj (s := s) (H := H) x
 have hd : decide (0 ≤ ((3 : Nat) : Int) ∧ ((3 : Nat) : Int) < (bP 5 x).parts.length) = true := by
  show decide (0 ≤ ((3 : Nat) : Int) ∧ ((3 : Nat) : Int) < ((4 : Nat) : Int)) = true
  decide
 simp only [hd] at h1
 unfold Config.v at *
 ((first | refine aJ ?_ | skip); refine cB (cf := aM) rfl rfl rfl rfl ?_; unfold aM; dsimp only [aC, Nat.reduceAdd, Nat.zero_add])
 repeat' (first | refine aS ?_ | refine yc ?_ (ha := by first | exact h1 _ _ | assumption) | (show zn; refine aA ?_ (ha := by first | exact h1 _ _ | assumption)) | (show gA; first | refine aH (fun _ => ?_) fun _ => ?_ | refine gc_E (fun _ => ?_) fun _ => ?_ | refine gc_N (fun _ => ?_) fun _ => ?_ | refine aT ?_ | refine gc_B (fun _ => ?_) fun _ => ?_) | fail)
 refine cY ?_ (ha := h2 _ _)
 refine pH ?_
 refine iT ?_
 refine bX ?_
 exact dL 60 (by kernel_rfl) ⟨rfl⟩
theorem aUf {x : Nums} (h : NumOK 4 x) : NetR (bP 5 x) (aG 5) (aN 5) := ⟨aF5 h, fun s H p hp => by
 have hp2 : p < 4 := hp
 rcases (show p = 0 ∨ p = 1 ∨ p = 2 ∨ p = 3 by omega) with rfl | rfl | rfl | rfl
 ·exact aOd h
 ·exact aOe h
 ·exact aOf h
 ·exact aOg h⟩
end Go.Abs
