/- A part of the proof of RowSpeakSync: lemmas alone, without conditions. -/
import Derived.Test.YtpcnjabfiahhhaaGreatDoorJ33
set_option linter.all false
namespace Go.Abs
open Go.Proofs.YtpcnjabfiahhhaaGreatDoor
section
variable {s : Option Nat} {H : aB} (x : Nums)
theorem aXk : Call tab s eB [(bP 6 x).v] H = some (.tup [.int .i64 0, .int .i64 0], H) := aE.2 ⟨60, by kernel_rfl⟩
theorem aLc : Call tab s bM [(bP 6 x).v] H = some (.tup [.int .i64 0, .int .i64 0], H) := aE.2 ⟨60, by kernel_rfl⟩
theorem aLe : Call tab s bI [(bP 6 x).v, .int .i64 ((0 : Nat) : Int)] H = some (.sl (some 4) (aG 6 0).length (enL (aG 6 0)), H) := aE.2 ⟨60, by kernel_rfl⟩
theorem aPl : Call tab s bE [(bP 6 x).v, .int .i64 ((0 : Nat) : Int), .sl none (aG 6 0).length (enL (aG 6 0))] H = some (.sl none (aN 6 0).length (enL (aN 6 0)), H) := aE.2 ⟨60, by kernel_rfl⟩
theorem aDm : Call tab s bD [(bP 6 x).v, .int .i64 ((0 : Nat) : Int)] H = some (.sl (some 4) (aG 6 0).length (enL (aG 6 0)), H) := aE.2 ⟨60, by kernel_rfl⟩
theorem aLf : Call tab s bF [(bP 6 x).v, .int .i64 ((0 : Nat) : Int)] H = some (.int .i64 (aG 6 0).length, H) := aE.2 ⟨60, by kernel_rfl⟩
theorem aLg : Call tab s bI [(bP 6 x).v, .int .i64 ((1 : Nat) : Int)] H = some (.sl (some 4) (aG 6 1).length (enL (aG 6 1)), H) := aE.2 ⟨60, by kernel_rfl⟩
theorem aPm : Call tab s bE [(bP 6 x).v, .int .i64 ((1 : Nat) : Int), .sl none (aG 6 1).length (enL (aG 6 1))] H = some (.sl none (aN 6 1).length (enL (aN 6 1)), H) := aE.2 ⟨60, by kernel_rfl⟩
theorem aDn : Call tab s bD [(bP 6 x).v, .int .i64 ((1 : Nat) : Int)] H = some (.sl (some 4) (aG 6 1).length (enL (aG 6 1)), H) := aE.2 ⟨60, by kernel_rfl⟩
theorem aLh : Call tab s bF [(bP 6 x).v, .int .i64 ((1 : Nat) : Int)] H = some (.int .i64 (aG 6 1).length, H) := aE.2 ⟨60, by kernel_rfl⟩
theorem aLi : Call tab s bI [(bP 6 x).v, .int .i64 ((2 : Nat) : Int)] H = some (.sl (some 4) (aG 6 2).length (enL (aG 6 2)), H) := aE.2 ⟨60, by kernel_rfl⟩
theorem aPn : Call tab s bE [(bP 6 x).v, .int .i64 ((2 : Nat) : Int), .sl none (aG 6 2).length (enL (aG 6 2))] H = some (.sl none (aN 6 2).length (enL (aN 6 2)), H) := aE.2 ⟨60, by kernel_rfl⟩
theorem aDo : Call tab s bD [(bP 6 x).v, .int .i64 ((2 : Nat) : Int)] H = some (.sl (some 4) (aG 6 2).length (enL (aG 6 2)), H) := aE.2 ⟨60, by kernel_rfl⟩
theorem aLj : Call tab s bF [(bP 6 x).v, .int .i64 ((2 : Nat) : Int)] H = some (.int .i64 (aG 6 2).length, H) := aE.2 ⟨60, by kernel_rfl⟩
theorem aLk : Call tab s bI [(bP 6 x).v, .int .i64 ((3 : Nat) : Int)] H = some (.sl (some 4) (aG 6 3).length (enL (aG 6 3)), H) := aE.2 ⟨60, by kernel_rfl⟩
theorem aPo : Call tab s bE [(bP 6 x).v, .int .i64 ((3 : Nat) : Int), .sl none (aG 6 3).length (enL (aG 6 3))] H = some (.sl none (aN 6 3).length (enL (aN 6 3)), H) := aE.2 ⟨60, by kernel_rfl⟩
theorem aDp : Call tab s bD [(bP 6 x).v, .int .i64 ((3 : Nat) : Int)] H = some (.sl (some 4) (aG 6 3).length (enL (aG 6 3)), H) := aE.2 ⟨60, by kernel_rfl⟩
theorem aLl : Call tab s bF [(bP 6 x).v, .int .i64 ((3 : Nat) : Int)] H = some (.int .i64 (aG 6 3).length, H) := aE.2 ⟨60, by kernel_rfl⟩
end
end Go.Abs
namespace Go.Abs
open Go.Proofs.YtpcnjabfiahhhaaGreatDoor
attribute [local irreducible] enL R RR gT fU rC gG gU qS apply fW gZ bQ cC fB bN iN bK bG eS cV lA dU V.rb V.rbL
theorem aEy {x : Nums} (h : NumOK 4 x) : Net (bP 6 x) (aG 6) (aN 6) where
 n1 := by show 1 ≤ 4 ∧ 4 ≤ 4; decide
 chk := fun s H => aXk x
 rchk := fun s H => aLc x
 ends := fun s H p hp => by
  have hp2 : p < 4 := hp
  rcases (show p = 0 ∨ p = 1 ∨ p = 2 ∨ p = 3 by omega) with rfl | rfl | rfl | rfl
  ·exact aLe x
  ·exact aLg x
  ·exact aLi x
  ·exact aLk x
 lst := fun s H p hp => by
  have hp2 : p < 4 := hp
  rcases (show p = 0 ∨ p = 1 ∨ p = 2 ∨ p = 3 by omega) with rfl | rfl | rfl | rfl
  ·exact aPl x
  ·exact aPm x
  ·exact aPn x
  ·exact aPo x
 rprt := fun s H p hp => by
  have hp2 : p < 4 := hp
  rcases (show p = 0 ∨ p = 1 ∨ p = 2 ∨ p = 3 by omega) with rfl | rfl | rfl | rfl
  ·exact aDm x
  ·exact aDn x
  ·exact aDo x
  ·exact aDp x
 rcnt := fun s H p hp => by
  have hp2 : p < 4 := hp
  rcases (show p = 0 ∨ p = 1 ∨ p = 2 ∨ p = 3 by omega) with rfl | rfl | rfl | rfl
  ·exact aLf x
  ·exact aLh x
  ·exact aLj x
  ·exact aLl x
 room := fun p hp => by
  have hp2 : p < 4 := hp
  rcases (show p = 0 ∨ p = 1 ∨ p = 2 ∨ p = 3 by omega) with rfl | rfl | rfl | rfl
  all_goals exact of_decide_eq_true (by kernel_rfl)
 cy := h.cy
 dr := h.dr
 ld := rfl
 sl := rfl
 rt := rfl
 rm := rfl
 wi := h.wi
 lo := h.lo
 ag := h.ag
 li := h.li
 sp := h.sp
theorem aNx {x : Nums} (h : NumOK 4 x) {s : Option Nat} {H : aB} : Call tab s aZ [(bP 6 x).v, .int .i64 ((0 : Nat) : Int)] H = some (.sl none (aN 6 0).length (enL (aN 6 0)), H) := by
 have h1 := fun s H => eG (s := s) (H := H) (aEy h) (p := ((0 : Nat) : Int))
 have h2 := fun s H => aDm (s := s) (H := H) x
 have hd : decide (0 ≤ ((0 : Nat) : Int) ∧ ((0 : Nat) : Int) < (bP 6 x).parts.length) = true := by
  show decide (0 ≤ ((0 : Nat) : Int) ∧ ((0 : Nat) : Int) < ((4 : Nat) : Int)) = true
  decide
 simp only [hd] at h1
 unfold Config.v at *
 ((first | refine aJ ?_ | skip); refine cB (cf := aM) rfl rfl rfl rfl ?_; unfold aM; dsimp only [aC, Nat.reduceAdd, Nat.zero_add])
 repeat' (first | refine aS ?_ | refine yc ?_ (ha := by first | exact h1 _ _ | assumption) | (show zn; refine aA ?_ (ha := by first | exact h1 _ _ | assumption)) | (show gA; first | refine aH (fun _ => ?_) fun _ => ?_ | refine gc_E (fun _ => ?_) fun _ => ?_ | refine gc_N (fun _ => ?_) fun _ => ?_ | refine aT ?_ | refine gc_B (fun _ => ?_) fun _ => ?_) | fail)
 refine cY ?_ (ha := h2 _ _)
 refine pH ?_
 refine iT ?_
 refine bX ?_
 exact dL 60 (by kernel_rfl) ⟨rfl⟩
theorem aNy {x : Nums} (h : NumOK 4 x) {s : Option Nat} {H : aB} : Call tab s aZ [(bP 6 x).v, .int .i64 ((1 : Nat) : Int)] H = some (.sl none (aN 6 1).length (enL (aN 6 1)), H) := by
 have h1 := fun s H => eG (s := s) (H := H) (aEy h) (p := ((1 : Nat) : Int))
 have h2 := fun s H => aDn (s := s) (H := H) x
 have hd : decide (0 ≤ ((1 : Nat) : Int) ∧ ((1 : Nat) : Int) < (bP 6 x).parts.length) = true := by
  show decide (0 ≤ ((1 : Nat) : Int) ∧ ((1 : Nat) : Int) < ((4 : Nat) : Int)) = true
  decide
 simp only [hd] at h1
 unfold Config.v at *
 ((first | refine aJ ?_ | skip); refine cB (cf := aM) rfl rfl rfl rfl ?_; unfold aM; dsimp only [aC, Nat.reduceAdd, Nat.zero_add])
 repeat' (first | refine aS ?_ | refine yc ?_ (ha := by first | exact h1 _ _ | assumption) | (show zn; refine aA ?_ (ha := by first | exact h1 _ _ | assumption)) | (show gA; first | refine aH (fun _ => ?_) fun _ => ?_ | refine gc_E (fun _ => ?_) fun _ => ?_ | refine gc_N (fun _ => ?_) fun _ => ?_ | refine aT ?_ | refine gc_B (fun _ => ?_) fun _ => ?_) | fail)
 refine cY ?_ (ha := h2 _ _)
 refine pH ?_
 refine iT ?_
 refine bX ?_
 exact dL 60 (by kernel_rfl) ⟨rfl⟩
theorem aNz {x : Nums} (h : NumOK 4 x) {s : Option Nat} {H : aB} : Call tab s aZ [(bP 6 x).v, .int .i64 ((2 : Nat) : Int)] H = some (.sl none (aN 6 2).length (enL (aN 6 2)), H) := by
 have h1 := fun s H => eG (s := s) (H := H) (aEy h) (p := ((2 : Nat) : Int))
 have h2 := fun s H => aDo (s := s) (H := H) x
 have hd : decide (0 ≤ ((2 : Nat) : Int) ∧ ((2 : Nat) : Int) < (bP 6 x).parts.length) = true := by
  show decide (0 ≤ ((2 : Nat) : Int) ∧ ((2 : Nat) : Int) < ((4 : Nat) : Int)) = true
  decide
 simp only [hd] at h1
 unfold Config.v at *
 ((first | refine aJ ?_ | skip); refine cB (cf := aM) rfl rfl rfl rfl ?_; unfold aM; dsimp only [aC, Nat.reduceAdd, Nat.zero_add])
 repeat' (first | refine aS ?_ | refine yc ?_ (ha := by first | exact h1 _ _ | assumption) | (show zn; refine aA ?_ (ha := by first | exact h1 _ _ | assumption)) | (show gA; first | refine aH (fun _ => ?_) fun _ => ?_ | refine gc_E (fun _ => ?_) fun _ => ?_ | refine gc_N (fun _ => ?_) fun _ => ?_ | refine aT ?_ | refine gc_B (fun _ => ?_) fun _ => ?_) | fail)
 refine cY ?_ (ha := h2 _ _)
 refine pH ?_
 refine iT ?_
 refine bX ?_
 exact dL 60 (by kernel_rfl) ⟨rfl⟩
theorem aO0 {x : Nums} (h : NumOK 4 x) {s : Option Nat} {H : aB} : Call tab s aZ [(bP 6 x).v, .int .i64 ((3 : Nat) : Int)] H = some (.sl none (aN 6 3).length (enL (aN 6 3)), H) := by
 have h1 := fun s H => eG (s := s) (H := H) (aEy h) (p := ((3 : Nat) : Int))
 have h2 := fun s H => aDp (s := s) (H := H) x
 have hd : decide (0 ≤ ((3 : Nat) : Int) ∧ ((3 : Nat) : Int) < (bP 6 x).parts.length) = true := by
  show decide (0 ≤ ((3 : Nat) : Int) ∧ ((3 : Nat) : Int) < ((4 : Nat) : Int)) = true
  decide
 simp only [hd] at h1
 unfold Config.v at *
 ((first | refine aJ ?_ | skip); refine cB (cf := aM) rfl rfl rfl rfl ?_; unfold aM; dsimp only [aC, Nat.reduceAdd, Nat.zero_add])
 repeat' (first | refine aS ?_ | refine yc ?_ (ha := by first | exact h1 _ _ | assumption) | (show zn; refine aA ?_ (ha := by first | exact h1 _ _ | assumption)) | (show gA; first | refine aH (fun _ => ?_) fun _ => ?_ | refine gc_E (fun _ => ?_) fun _ => ?_ | refine gc_N (fun _ => ?_) fun _ => ?_ | refine aT ?_ | refine gc_B (fun _ => ?_) fun _ => ?_) | fail)
 refine cY ?_ (ha := h2 _ _)
 refine pH ?_
 refine iT ?_
 refine bX ?_
 exact dL 60 (by kernel_rfl) ⟨rfl⟩
theorem aU5 {x : Nums} (h : NumOK 4 x) : NetR (bP 6 x) (aG 6) (aN 6) := ⟨aEy h, fun s H p hp => by
 have hp2 : p < 4 := hp
 rcases (show p = 0 ∨ p = 1 ∨ p = 2 ∨ p = 3 by omega) with rfl | rfl | rfl | rfl
 ·exact aNx h
 ·exact aNy h
 ·exact aNz h
 ·exact aO0 h⟩
end Go.Abs
