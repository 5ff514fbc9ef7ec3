/- A part of the proof of RowSpeakSync: lemmas alone, without conditions. -/
import Derived.Test.YtpcnjabfiahhhaaGreatDoorJ36
set_option linter.all false
namespace Go.Abs
open Go.Proofs.YtpcnjabfiahhhaaGreatDoor
attribute [local irreducible] enL R RR gT fU rC gG gU qS apply fW gZ bQ cC fB bN iN bK bG eS cV lA dU V.rb V.rbL
def aHf (p n : Int) (x : Node) : Frame := F9 p n x.cycle x.mask x.ages
def aHg (p n : Int) (x : Node) : Frame := F8 p n x.wait
def xF (c : Config) (p : Int) : Int := IntKind.i64.wrap (c.listen + IntKind.i64.wrap (p * c.span))
def aA4 (c : Config) (l : List Slot) (p n : Int) (x : Node) (ppm : Int) : V :=
 if S6 c x ppm ∧ x.state = 2 then spk l 2 (aHf p n x) x.start (x.drift + ppm)
 else if S6 c x ppm ∧ x.state = 1 ∧ xF c p ≤ x.wait then spk l 2 (aHg p n x) x.start x.drift
 else .tup [say0.v, .bool false]
theorem aFt {c : Config} {s : Option Nat} {H : aB} {p : Int} : Call tab s rO [c.v, .int .i64 p] H = some (.int .i64 (xF c p), H) := by
 unfold Config.v
 ((first | refine aJ ?_ | skip); refine cB (cf := jO) rfl rfl rfl rfl ?_; unfold jO; dsimp only [aC, Nat.reduceAdd, Nat.zero_add])
 repeat' (first | refine aS ?_ | refine yc ?_ | (show zn; refine aA ?_) | (show gA; first | refine aH (fun _ => ?_) fun _ => ?_ | refine gc_E (fun _ => ?_) fun _ => ?_ | refine gc_N (fun _ => ?_) fun _ => ?_ | refine aT ?_ | refine gc_B (fun _ => ?_) fun _ => ?_) | fail)
 rfl
set_option maxHeartbeats 2000000 in
theorem aTd {c : Config} {P : Nat → List Port} {S : Nat → List Slot} {s : Option Nat} {H : aB} {p : Nat} {n ppm : Int} {x : Node} (hd : 0 ≤ c.drift ∧ c.drift ≤ 140) (hS : (S p).length ≤ 1000) (hl : x.ages.length ≤ 1000) :
 Call tab s g8 [(sN c P S p).v, .int .i64 n, x.v, .int .i64 ppm] H = some (aA4 c (S p) p n x ppm, H) := by
 have hm := fun s H => aUi (c := c) (P := P) (S := S) (s := s) (H := H) (p := p) (x := x) (ppm := ppm) hd
 have hq := fun s H => aFt (c := c) (s := s) (H := H) (p := (p : Int))
 unfold aA4
 by_cases h1 : S6 c x ppm
 ·have h1' : decide (S6 c x ppm) = true := decide_eq_true h1
  by_cases h2 : x.state = 2
  ·rw [if_pos ⟨h1, h2⟩]
   obtain ⟨y, b, e1, e2⟩ := aOq (S p) 2 (aHf p n x) x.start (x.drift + ppm)
   rw [e2]
   have hs : ∀ s H, Call tab s oV [(sN c P S p).v, .int .i64 2, (F9 0 n x.cycle x.mask x.ages).v, .int .i64 x.start, .int .i64 (x.drift + ppm)] H = some (.tup [y.v, .bool b], H) := fun s H => by
    rw [← e1]; exact aRm (v := sN c P S p) (f := F9 0 n x.cycle x.mask x.ages) hS hl (Nat.zero_le _)
   simp only [F9] at hs
   have ht := @n8
   unfold View.v sN Node.v Frame.v Say.v at *
   simp only [bJ, List.length_nil] at hs
   cases b
   ·((first | refine aJ ?_ | skip); refine cB (cf := cP) rfl rfl rfl rfl ?_; unfold cP; dsimp only [aC, Nat.reduceAdd, Nat.zero_add])
    repeat' (first | refine aS ?_ | refine yc ?_ (ha := by first | exact hm _ _ | exact hs _ _ | exact G9 (x := y) | assumption) | (show zn; refine aA ?_ (ha := by first | exact hm _ _ | exact hs _ _ | exact G9 (x := y) | assumption)) | (show gA; first | refine aH (fun _ => ?_) fun _ => ?_ | refine gc_E (fun _ => ?_) fun _ => ?_ | refine gc_N (fun _ => ?_) fun _ => ?_ | refine aT ?_ | refine gc_B (fun _ => ?_) fun _ => ?_) | fail)
    rfl
   ·((first | refine aJ ?_ | skip); refine cB (cf := cP) rfl rfl rfl rfl ?_; unfold cP; dsimp only [aC, Nat.reduceAdd, Nat.zero_add])
    repeat' (first | refine aS ?_ | refine yc ?_ (ha := by first | exact hm _ _ | exact hs _ _ | exact n8 (x := y) | assumption) | (show zn; refine aA ?_ (ha := by first | exact hm _ _ | exact hs _ _ | exact n8 (x := y) | assumption)) | (show gA; first | refine aH (fun _ => ?_) fun _ => ?_ | refine gc_E (fun _ => ?_) fun _ => ?_ | refine gc_N (fun _ => ?_) fun _ => ?_ | refine aT ?_ | refine gc_B (fun _ => ?_) fun _ => ?_) | fail)
    rfl
  ·rw [if_neg (fun h => h2 h.2)]
   by_cases h3 : x.state = 1 ∧ xF c p ≤ x.wait
   ·rw [if_pos ⟨h1, h3⟩]
    have h4 := h3.1
    obtain ⟨y, b, e1, e2⟩ := aOq (S p) 2 (aHg p n x) x.start x.drift
    rw [e2]
    have hs : ∀ s H, Call tab s oV [(sN c P S p).v, .int .i64 2, (F8 0 n x.wait).v, .int .i64 x.start, .int .i64 x.drift] H = some (.tup [y.v, .bool b], H) := fun s H => by
     rw [← e1]; exact aRm (v := sN c P S p) (f := F8 0 n x.wait) hS (Nat.zero_le _) (Nat.zero_le _)
    simp only [F8] at hs
    unfold View.v sN Node.v Frame.v Say.v Config.v at *
    simp only [bJ, List.length_nil] at hs
    cases b
    ·((first | refine aJ ?_ | skip); refine cB (cf := cP) rfl rfl rfl rfl ?_; unfold cP; dsimp only [aC, Nat.reduceAdd, Nat.zero_add])
     repeat' (first | refine aS ?_ | refine yc ?_ (ha := by first | exact hm _ _ | exact hs _ _ | exact hq _ _ | exact G9 (x := y) | assumption) | (show zn; refine aA ?_ (ha := by first | exact hm _ _ | exact hs _ _ | exact hq _ _ | exact G9 (x := y) | assumption)) | (show gA; first | refine aH (fun _ => ?_) fun _ => ?_ | refine gc_E (fun _ => ?_) fun _ => ?_ | refine gc_N (fun _ => ?_) fun _ => ?_ | refine aT ?_ | refine gc_B (fun _ => ?_) fun _ => ?_) | fail)
     rfl
    ·((first | refine aJ ?_ | skip); refine cB (cf := cP) rfl rfl rfl rfl ?_; unfold cP; dsimp only [aC, Nat.reduceAdd, Nat.zero_add])
     repeat' (first | refine aS ?_ | refine yc ?_ (ha := by first | exact hm _ _ | exact hs _ _ | exact hq _ _ | exact n8 (x := y) | assumption) | (show zn; refine aA ?_ (ha := by first | exact hm _ _ | exact hs _ _ | exact hq _ _ | exact n8 (x := y) | assumption)) | (show gA; first | refine aH (fun _ => ?_) fun _ => ?_ | refine gc_E (fun _ => ?_) fun _ => ?_ | refine gc_N (fun _ => ?_) fun _ => ?_ | refine aT ?_ | refine gc_B (fun _ => ?_) fun _ => ?_) | fail)
     rfl
   ·rw [if_neg (fun h => h3 h.2)]
    unfold View.v sN Node.v Say.v say0 Config.v at *
    ((first | refine aJ ?_ | skip); refine cB (cf := cP) rfl rfl rfl rfl ?_; unfold cP; dsimp only [aC, Nat.reduceAdd, Nat.zero_add])
    by_cases h4 : x.state = 1
    ·have h5 : ¬ xF c p ≤ x.wait := fun k => h3 ⟨h4, k⟩
     repeat' (first | refine aS ?_ | refine yc ?_ (ha := by first | exact hm _ _ | exact hq _ _ | assumption) | (show zn; refine aA ?_ (ha := by first | exact hm _ _ | exact hq _ _ | assumption)) | (show gA; first | refine aH (fun _ => ?_) fun _ => ?_ | refine gc_E (fun _ => ?_) fun _ => ?_ | refine gc_N (fun _ => ?_) fun _ => ?_ | refine aT ?_ | refine gc_B (fun _ => ?_) fun _ => ?_) | fail)
     simp only [bJ, List.length_nil]
    ·repeat' (first | refine aS ?_ | refine yc ?_ (ha := by first | exact hm _ _ | exact hq _ _ | assumption) | (show zn; refine aA ?_ (ha := by first | exact hm _ _ | exact hq _ _ | assumption)) | (show gA; first | refine aH (fun _ => ?_) fun _ => ?_ | refine gc_E (fun _ => ?_) fun _ => ?_ | refine gc_N (fun _ => ?_) fun _ => ?_ | refine aT ?_ | refine gc_B (fun _ => ?_) fun _ => ?_) | fail)
     simp only [bJ, List.length_nil]
 ·have h1' : decide (S6 c x ppm) = false := decide_eq_false h1
  rw [if_neg (fun h => h1 h.1), if_neg (fun h => h1 h.1)]
  unfold View.v sN Node.v Say.v say0 at *
  ((first | refine aJ ?_ | skip); refine cB (cf := cP) rfl rfl rfl rfl ?_; unfold cP; dsimp only [aC, Nat.reduceAdd, Nat.zero_add])
  repeat' (first | refine aS ?_ | refine yc ?_ (ha := by first | exact hm _ _ | assumption) | (show zn; refine aA ?_ (ha := by first | exact hm _ _ | assumption)) | (show gA; first | refine aH (fun _ => ?_) fun _ => ?_ | refine gc_E (fun _ => ?_) fun _ => ?_ | refine gc_N (fun _ => ?_) fun _ => ?_ | refine aT ?_ | refine gc_B (fun _ => ?_) fun _ => ?_) | fail)
  simp only [bJ, List.length_nil]
end Go.Abs
namespace Go.Abs
open Go.Proofs.YtpcnjabfiahhhaaGreatDoor
attribute [local irreducible] enL R RR gT fU rC gG gU qS apply fW gZ bQ cC fB bN iN bK bG eS cV lA dU V.rb V.rbL
def Z8 (c : Config) (S : Nat → List Slot) (p n : Int) (x : Node) (ppm : Int) : V :=
 if 0 ≤ p ∧ p < c.parts.length then aA4 c (S p.toNat) p n x ppm else .tup [say0.v, .bool false]
theorem G4 (l : List Slot) (k : Int) (f : Frame) (start ppm : Int) : ∃ (y : Say) (b : Bool), spk l k f start ppm = .tup [y.v, .bool b] := by
 unfold spk; split
 ·exact ⟨_, _, rfl⟩
 ·exact ⟨_, _, rfl⟩
theorem aDc (c : Config) (l : List Slot) (p n : Int) (x : Node) (ppm : Int) : ∃ (y : Say) (b : Bool), aA4 c l p n x ppm = .tup [y.v, .bool b] := by
 unfold aA4; split
 ·exact G4 ..
 ·split
  ·exact G4 ..
  ·exact ⟨_, _, rfl⟩
set_option maxHeartbeats 2000000 in
theorem aT5 {c : Config} {P : Nat → List Port} {S : Nat → List Slot} (h : NetR c P S) (hS : ∀ p, (S p).length ≤ 1000) {s : Option Nat} {H : aB} {p n ppm : Int} {x : Node} (hl : x.ages.length ≤ 1000) :
 Call tab s uR [c.v, .int .i64 p, .int .i64 n, x.v, .int .i64 ppm] H = some (Z8 c S p n x ppm, H) := by
 unfold Z8
 by_cases hp : 0 ≤ p ∧ p < c.parts.length
 ·rw [if_pos hp]
  obtain ⟨q, rfl⟩ : ∃ q : Nat, p = q := ⟨p.toNat, by omega⟩
  rw [Int.toNat_natCast]
  have ho := fun s H => aYl (s := s) (H := H) h.toNet (p := q) (by omega)
  have hm := fun s H => aTd (c := c) (P := P) (S := S) (s := s) (H := H) (p := q) (n := n) (ppm := ppm) (x := x) h.dr (hS q) hl
  obtain ⟨y, b, e⟩ := aDc c (S q) q n x ppm
  rw [e] at hm ⊢
  unfold Config.v View.v sN Node.v Say.v at *
  ((first | refine aJ ?_ | skip); refine cB (cf := kY) rfl rfl rfl rfl ?_; unfold kY; dsimp only [aC, Nat.reduceAdd, Nat.zero_add])
  repeat' (first | refine aS ?_ | refine yc ?_ (ha := by first | exact ho _ _ | exact hm _ _ | assumption) | (show zn; refine aA ?_ (ha := by first | exact ho _ _ | exact hm _ _ | assumption)) | (show gA; first | refine aH (fun _ => ?_) fun _ => ?_ | refine gc_E (fun _ => ?_) fun _ => ?_ | refine gc_N (fun _ => ?_) fun _ => ?_ | refine aT ?_ | refine gc_B (fun _ => ?_) fun _ => ?_) | fail)
  rfl
 ·rw [if_neg hp]
  have ho := fun s H => aYm (s := s) (H := H) h.toNet hp
  unfold Config.v View.v view0 Node.v Say.v say0 at *
  simp only [bJ, List.length_nil] at ho ⊢
  ((first | refine aJ ?_ | skip); refine cB (cf := kY) rfl rfl rfl rfl ?_; unfold kY; dsimp only [aC, Nat.reduceAdd, Nat.zero_add])
  repeat' (first | refine aS ?_ | refine yc ?_ (ha := by first | exact ho _ _ | assumption) | (show zn; refine aA ?_ (ha := by first | exact ho _ _ | assumption)) | (show gA; first | refine aH (fun _ => ?_) fun _ => ?_ | refine gc_E (fun _ => ?_) fun _ => ?_ | refine gc_N (fun _ => ?_) fun _ => ?_ | refine aT ?_ | refine gc_B (fun _ => ?_) fun _ => ?_) | fail)
  rfl
set_option maxHeartbeats 2000000 in
theorem aPb {c : Config} {P : Nat → List Port} {S : Nat → List Slot} (h : NetR c P S) (hS : ∀ p, (S p).length ≤ 1000) {s : Option Nat} {H : aB} {p n ppm : Int} {x : Node} (hl : x.ages.length ≤ 1000) :
 Call tab s g5 [c.v, .int .i64 p, .int .i64 n, x.v, .int .i64 ppm] H = some (Z8 c S p n x ppm, H) := by
 unfold Z8
 have hmay := fun s H => aR2 (s := s) (H := H) h.toNet (p := p) (x := x) (ppm := ppm)
 have hdr := h.dr
 by_cases hp : 0 ≤ p ∧ p < c.parts.length
 ·rw [if_pos hp]
  obtain ⟨q, rfl⟩ : ∃ q : Nat, p = q := ⟨p.toNat, by omega⟩
  rw [Int.toNat_natCast]
  have hfi := fun s H => aLs (s := s) (H := H) h.toNet hp
  have hql : q < c.parts.length := by omega
  unfold aA4
  by_cases h1 : S6 c x ppm
  ·have h1' : decide ((0 ≤ (q : Int) ∧ (q : Int) < c.parts.length) ∧ S6 c x ppm) = true := decide_eq_true ⟨hp, h1⟩
   simp only [h1'] at hmay
   by_cases h2 : x.state = 2
   ·rw [if_pos ⟨h1, h2⟩]
    have hs : ∀ s H, Call tab s jX [c.v, .int .i64 (q : Int), .int .i64 2, .int .i64 n, (F9 0 0 x.cycle x.mask x.ages).v, .int .i64 x.start, .int .i64 (x.drift + ppm)] H = some (spk (S q) 2 (aHf q n x) x.start (x.drift + ppm), H) := fun s H => aAv (f := F9 0 0 x.cycle x.mask x.ages) h hql (hS q) hl (Nat.zero_le _)
    obtain ⟨y, b, e⟩ := G4 (S q) 2 (aHf q n x) x.start (x.drift + ppm)
    rw [e] at hs ⊢
    simp only [F9] at hs
    unfold Config.v Node.v Say.v Frame.v at *
    simp only [bJ, List.length_nil] at hs
    ((first | refine aJ ?_ | skip); refine cB (cf := dG) rfl rfl rfl rfl ?_; unfold dG; dsimp only [aC, Nat.reduceAdd, Nat.zero_add])
    repeat' (first | refine aS ?_ | refine yc ?_ (ha := by first | exact hmay _ _ | exact hs _ _ | assumption) | (show zn; refine aA ?_ (ha := by first | exact hmay _ _ | exact hs _ _ | assumption)) | (show gA; first | refine aH (fun _ => ?_) fun _ => ?_ | refine gc_E (fun _ => ?_) fun _ => ?_ | refine gc_N (fun _ => ?_) fun _ => ?_ | refine aT ?_ | refine gc_B (fun _ => ?_) fun _ => ?_) | fail)
    rfl
   ·rw [if_neg (fun k => h2 k.2)]
    by_cases h3 : x.state = 1 ∧ xF c q ≤ x.wait
    ·rw [if_pos ⟨h1, h3⟩]
     have h4 := h3.1
     have h5 : IntKind.i64.wrap (c.listen + IntKind.i64.wrap ((q : Int) * c.span)) ≤ x.wait := h3.2
     have hs : ∀ s H, Call tab s jX [c.v, .int .i64 (q : Int), .int .i64 2, .int .i64 n, (F8 0 0 x.wait).v, .int .i64 x.start, .int .i64 x.drift] H = some (spk (S q) 2 (aHg q n x) x.start x.drift, H) := fun s H => aAv (f := F8 0 0 x.wait) h hql (hS q) (Nat.zero_le _) (Nat.zero_le _)
     obtain ⟨y, b, e⟩ := G4 (S q) 2 (aHg q n x) x.start x.drift
     rw [e] at hs ⊢
     simp only [F8] at hs
     unfold Config.v Node.v Say.v Frame.v at *
     simp only [bJ, List.length_nil] at hs
     ((first | refine aJ ?_ | skip); refine cB (cf := dG) rfl rfl rfl rfl ?_; unfold dG; dsimp only [aC, Nat.reduceAdd, Nat.zero_add])
     repeat' (first | refine aS ?_ | refine yc ?_ (ha := by first | exact hmay _ _ | exact hs _ _ | exact hfi _ _ | assumption) | (show zn; refine aA ?_ (ha := by first | exact hmay _ _ | exact hs _ _ | exact hfi _ _ | assumption)) | (show gA; first | refine aH (fun _ => ?_) fun _ => ?_ | refine gc_E (fun _ => ?_) fun _ => ?_ | refine gc_N (fun _ => ?_) fun _ => ?_ | refine aT ?_ | refine gc_B (fun _ => ?_) fun _ => ?_) | fail)
     rfl
    ·rw [if_neg (fun k => h3 k.2)]
     unfold Config.v Node.v Say.v say0 at *
     simp only [bJ, List.length_nil]
     ((first | refine aJ ?_ | skip); refine cB (cf := dG) rfl rfl rfl rfl ?_; unfold dG; dsimp only [aC, Nat.reduceAdd, Nat.zero_add])
     by_cases h4 : x.state = 1
     ·have h5 : ¬ IntKind.i64.wrap (c.listen + IntKind.i64.wrap ((q : Int) * c.span)) ≤ x.wait := fun k => h3 ⟨h4, k⟩
      repeat' (first | refine aS ?_ | refine yc ?_ (ha := by first | exact hmay _ _ | exact hfi _ _ | assumption) | (show zn; refine aA ?_ (ha := by first | exact hmay _ _ | exact hfi _ _ | assumption)) | (show gA; first | refine aH (fun _ => ?_) fun _ => ?_ | refine gc_E (fun _ => ?_) fun _ => ?_ | refine gc_N (fun _ => ?_) fun _ => ?_ | refine aT ?_ | refine gc_B (fun _ => ?_) fun _ => ?_) | fail)
      rfl
     ·repeat' (first | refine aS ?_ | refine yc ?_ (ha := by first | exact hmay _ _ | exact hfi _ _ | assumption) | (show zn; refine aA ?_ (ha := by first | exact hmay _ _ | exact hfi _ _ | assumption)) | (show gA; first | refine aH (fun _ => ?_) fun _ => ?_ | refine gc_E (fun _ => ?_) fun _ => ?_ | refine gc_N (fun _ => ?_) fun _ => ?_ | refine aT ?_ | refine gc_B (fun _ => ?_) fun _ => ?_) | fail)
      rfl
  ·have h1' : decide ((0 ≤ (q : Int) ∧ (q : Int) < c.parts.length) ∧ S6 c x ppm) = false := decide_eq_false (fun k => h1 k.2)
   simp only [h1'] at hmay
   rw [if_neg (fun k => h1 k.1), if_neg (fun k => h1 k.1)]
   unfold Config.v Node.v Say.v say0 at *
   simp only [bJ, List.length_nil]
   ((first | refine aJ ?_ | skip); refine cB (cf := dG) rfl rfl rfl rfl ?_; unfold dG; dsimp only [aC, Nat.reduceAdd, Nat.zero_add])
   repeat' (first | refine aS ?_ | refine yc ?_ (ha := by first | exact hmay _ _ | assumption) | (show zn; refine aA ?_ (ha := by first | exact hmay _ _ | assumption)) | (show gA; first | refine aH (fun _ => ?_) fun _ => ?_ | refine gc_E (fun _ => ?_) fun _ => ?_ | refine gc_N (fun _ => ?_) fun _ => ?_ | refine aT ?_ | refine gc_B (fun _ => ?_) fun _ => ?_) | fail)
   rfl
 ·rw [if_neg hp]
  have h1' : decide ((0 ≤ p ∧ p < c.parts.length) ∧ S6 c x ppm) = false := decide_eq_false (fun k => hp k.1)
  simp only [h1'] at hmay
  unfold Config.v Node.v Say.v say0 at *
  simp only [bJ, List.length_nil]
  ((first | refine aJ ?_ | skip); refine cB (cf := dG) rfl rfl rfl rfl ?_; unfold dG; dsimp only [aC, Nat.reduceAdd, Nat.zero_add])
  repeat' (first | refine aS ?_ | refine yc ?_ (ha := by first | exact hmay _ _ | assumption) | (show zn; refine aA ?_ (ha := by first | exact hmay _ _ | assumption)) | (show gA; first | refine aH (fun _ => ?_) fun _ => ?_ | refine gc_E (fun _ => ?_) fun _ => ?_ | refine gc_N (fun _ => ?_) fun _ => ?_ | refine aT ?_ | refine gc_B (fun _ => ?_) fun _ => ?_) | fail)
  rfl
end Go.Abs
