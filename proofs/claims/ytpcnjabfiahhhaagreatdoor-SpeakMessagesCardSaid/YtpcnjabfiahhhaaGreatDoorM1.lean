/- A part of the proof of RowSpeakMessages: lemmas alone, without conditions. -/
import Derived.Test.YtpcnjabfiahhhaaGreatDoorK48
import Derived.Test.YtpcnjabfiahhhaaGreatDoorK50
set_option linter.all false
namespace Go.Abs
open Go.Proofs.YtpcnjabfiahhhaaGreatDoor
attribute [local irreducible] enL R RR fP fB pX fK fQ pU apply fT gQ bW bZ eJ bR iL bG bD eC cR kD dO V.rb V.rbL
def B5 (l : List Port) (n : Int) : Int := (l.getD (kC l n).toNat default).link
theorem s8 {l : List Port} {n : Int} (h : kC l n < 0) : eD l n = .tup [port0.v, .bool false] := by unfold eD; rw [if_pos h]
theorem s9 {l : List Port} {n : Int} (h : ¬ kC l n < 0) : ∃ y : Port, eD l n = .tup [y.v, .bool true] ∧ B5 l n = y.link := by
 unfold eD; rw [if_neg h]; exact ⟨_, rfl, rfl⟩
end Go.Abs
namespace Go.Abs
open Go.Proofs.YtpcnjabfiahhhaaGreatDoor
attribute [local irreducible] enL R RR fP fB pX fK fQ pU apply fT gQ bW bZ eJ bR iL bG bD eC cR kD dO V.rb V.rbL
theorem aJ3 {c : Config} {P : Nat → List Port} {S : Nat → List Slot} (h : Net c P S) (hR : xO c P) {s : Option Nat} {H : aC} {p : Nat} {n : Int} (hp : p < c.parts.length) : Call tab s sU [c.v, .int .i64 (p : Int), .int .i64 n] H = some (eD (P p) n, H) := by
 have hg := fun s H => aJe (s := s) (H := H) h (p := (p : Int))
 rw [decide_eq_true (show 0 ≤ (p : Int) ∧ (p : Int) < c.parts.length by omega)] at hg
 have hr := fun s H => hR s H p n hp
 obtain ⟨y, b, e⟩ : ∃ (y : Port) (b : Bool), eD (P p) n = .tup [y.v, .bool b] := by
  unfold eD; split
  ·exact ⟨_, _, rfl⟩
  ·exact ⟨_, _, rfl⟩
 rw [e] at hr ⊢
 unfold Config.v Port.v at *
 ((first | refine aJ ?_ | skip); refine bX (cf := nK) rfl rfl rfl rfl ?_; unfold nK; dsimp only [aB, Nat.reduceAdd, Nat.zero_add])
 repeat' (first | refine aS ?_ | refine yc ?_ (ha := by first | exact hg _ _ | exact hr _ _ | assumption) | (show zn; refine aA ?_ (ha := by first | exact hg _ _ | exact hr _ _ | assumption)) | (show gA; first | refine aH (fun _ => ?_) fun _ => ?_ | refine gc_E (fun _ => ?_) fun _ => ?_ | refine gc_N (fun _ => ?_) fun _ => ?_ | refine aT ?_ | refine gc_B (fun _ => ?_) fun _ => ?_) | fail)
 rfl
theorem aF7 {c : Config} {P : Nat → List Port} {S : Nat → List Slot} (h : Net c P S) {s : Option Nat} {H : aC} {p n : Int} (hp : ¬ (0 ≤ p ∧ p < c.parts.length)) : Call tab s sU [c.v, .int .i64 p, .int .i64 n] H = some (.tup [port0.v, .bool false], H) := by
 have hg := fun s H => aJe (s := s) (H := H) h (p := p)
 rw [decide_eq_false hp] at hg
 unfold Config.v Port.v port0 at *
 ((first | refine aJ ?_ | skip); refine bX (cf := nK) rfl rfl rfl rfl ?_; unfold nK; dsimp only [aB, Nat.reduceAdd, Nat.zero_add])
 repeat' (first | refine aS ?_ | refine yc ?_ (ha := by first | exact hg _ _ | assumption) | (show zn; refine aA ?_ (ha := by first | exact hg _ _ | assumption)) | (show gA; first | refine aH (fun _ => ?_) fun _ => ?_ | refine gc_E (fun _ => ?_) fun _ => ?_ | refine gc_N (fun _ => ?_) fun _ => ?_ | refine aT ?_ | refine gc_B (fun _ => ?_) fun _ => ?_) | fail)
 rfl
end Go.Abs
namespace Go.Abs
open Go.Proofs.YtpcnjabfiahhhaaGreatDoor
attribute [local irreducible] enL R RR fP fB pX fK fQ pU apply fT gQ bW bZ eJ bR iL bG bD eC cR kD dO V.rb V.rbL
def aC0 (c : Config) (ports : List Port) (slots : List Slot) (p n : Int) (x : Node) (ppm : Int) (m : Item) : V :=
 if ¬ kC ports n < 0 ∧ c8 c x ppm ∧ x.state = 2 then spk slots 5 (C7 p n (B5 ports n) m.frm m.to m.seq m.body) x.start (x.drift + ppm) else .tup [say0.v, .bool false]
def aC1 (c : Config) (P : Nat → List Port) (S : Nat → List Slot) (p n : Int) (x : Node) (ppm : Int) (m : Item) : V := if 0 ≤ p ∧ p < c.parts.length then aC0 c (P p.toNat) (S p.toNat) p n x ppm m else .tup [say0.v, .bool false]
theorem aGy (c : Config) (ports : List Port) (slots : List Slot) (p n : Int) (x : Node) (ppm : Int) (m : Item) : ∃ (y : Say) (b : Bool), aC0 c ports slots p n x ppm m = .tup [y.v, .bool b] := by
 unfold aC0; split
 ·exact aJ0 ..
 ·exact ⟨_, _, rfl⟩
theorem aQk (c : Config) (P : Nat → List Port) (S : Nat → List Slot) (p n : Int) (x : Node) (ppm : Int) (m : Item) : ∃ (y : Say) (b : Bool), aC1 c P S p n x ppm m = .tup [y.v, .bool b] := by
 unfold aC1; split
 ·exact aGy ..
 ·exact ⟨_, _, rfl⟩
set_option maxHeartbeats 4000000 in
theorem aX7 {c : Config} {P : Nat → List Port} {S : Nat → List Slot} {s : Option Nat} {H : aC} {p : Nat} {n ppm : Int} {x : Node} {m : Item} (hd : 0 ≤ c.drift ∧ c.drift ≤ 140) (hS : (S p).length ≤ 1000) (hP : (P p).length ≤ 1000) (hl : m.body.length ≤ 1000) :
 Call tab s o6 [(dW c P S p).v, .int .i64 n, x.v, .int .i64 ppm, m.v] H = some (aC0 c (P p) (S p) p n x ppm m, H) := by
 have hm := fun s H => aLm (c := c) (P := P) (S := S) (s := s) (H := H) (p := p) (x := x) (ppm := ppm) hd
 have hpo := fun s H => aMf (s := s) (H := H) (v := dW c P S p) (n := n) hP
 unfold aC0
 by_cases h0 : kC (P p) n < 0
 ·rw [if_neg (fun h => h.1 h0)]
  rw [show eD (dW c P S p).ports n = _ from s8 h0] at hpo
  unfold View.v dW Node.v Item.v port0 Port.v Say.v say0 at *
  ((first | refine aJ ?_ | skip); refine bX (cf := dQ) rfl rfl rfl rfl ?_; unfold dQ; dsimp only [aB, Nat.reduceAdd, Nat.zero_add])
  repeat' (first | refine aS ?_ | refine yc ?_ (ha := by first | exact hpo _ _ | assumption) | (show zn; refine aA ?_ (ha := by first | exact hpo _ _ | assumption)) | (show gA; first | refine aH (fun _ => ?_) fun _ => ?_ | refine gc_E (fun _ => ?_) fun _ => ?_ | refine gc_N (fun _ => ?_) fun _ => ?_ | refine aT ?_ | refine gc_B (fun _ => ?_) fun _ => ?_) | fail)
  simp only [aO, List.length_nil]
 obtain ⟨y, hy, hyl⟩ := s9 h0
 rw [show eD (dW c P S p).ports n = _ from hy] at hpo
 rw [hyl]
 by_cases h2 : x.state = 2
 rotate_left
 ·rw [if_neg (fun h => h2 h.2.2)]
  unfold View.v dW Node.v Item.v Port.v Say.v say0 at *
  ((first | refine aJ ?_ | skip); refine bX (cf := dQ) rfl rfl rfl rfl ?_; unfold dQ; dsimp only [aB, Nat.reduceAdd, Nat.zero_add])
  repeat' (first | refine aS ?_ | refine yc ?_ (ha := by first | exact hpo _ _ | assumption) | (show zn; refine aA ?_ (ha := by first | exact hpo _ _ | assumption)) | (show gA; first | refine aH (fun _ => ?_) fun _ => ?_ | refine gc_E (fun _ => ?_) fun _ => ?_ | refine gc_N (fun _ => ?_) fun _ => ?_ | refine aT ?_ | refine gc_B (fun _ => ?_) fun _ => ?_) | fail)
  simp only [aO, List.length_nil]
 by_cases h1 : c8 c x ppm
 rotate_left
 ·have h1' : decide (c8 c x ppm) = false := decide_eq_false h1
  rw [if_neg (fun h => h1 h.2.1)]
  unfold View.v dW Node.v Item.v Port.v Say.v say0 at *
  ((first | refine aJ ?_ | skip); refine bX (cf := dQ) rfl rfl rfl rfl ?_; unfold dQ; dsimp only [aB, Nat.reduceAdd, Nat.zero_add])
  repeat' (first | refine aS ?_ | refine yc ?_ (ha := by first | exact hpo _ _ | exact hm _ _ | assumption) | (show zn; refine aA ?_ (ha := by first | exact hpo _ _ | exact hm _ _ | assumption)) | (show gA; first | refine aH (fun _ => ?_) fun _ => ?_ | refine gc_E (fun _ => ?_) fun _ => ?_ | refine gc_N (fun _ => ?_) fun _ => ?_ | refine aT ?_ | refine gc_B (fun _ => ?_) fun _ => ?_) | fail)
  simp only [aO, List.length_nil]
 have h1' : decide (c8 c x ppm) = true := decide_eq_true h1
 rw [if_pos ⟨h0, h1, h2⟩]
 obtain ⟨z, b, e1, e2⟩ := aU7 (S p) 5 (C7 p n y.link m.frm m.to m.seq m.body) x.start (x.drift + ppm)
 rw [e2]
 have hs : ∀ s H, Call tab s dS [(dW c P S p).v, .int .i64 5, (C7 0 n y.link m.frm m.to m.seq m.body).v, .int .i64 x.start, .int .i64 (x.drift + ppm)] H = some (.tup [z.v, .bool b], H) := fun s H => by
  rw [← e1]; exact aQi (v := dW c P S p) (f := C7 0 n y.link m.frm m.to m.seq m.body) hS (Nat.zero_le _) hl
 simp only [C7] at hs
 have ht := @aEa
 unfold View.v dW Node.v Item.v Port.v Frame.v Say.v at *
 simp only [aO, List.length_nil] at hs
 cases b
 ·((first | refine aJ ?_ | skip); refine bX (cf := dQ) rfl rfl rfl rfl ?_; unfold dQ; dsimp only [aB, Nat.reduceAdd, Nat.zero_add])
  repeat' (first | refine aS ?_ | refine yc ?_ (ha := by first | exact hpo _ _ | exact hm _ _ | exact hs _ _ | exact aJj (x := z) | assumption) | (show zn; refine aA ?_ (ha := by first | exact hpo _ _ | exact hm _ _ | exact hs _ _ | exact aJj (x := z) | assumption)) | (show gA; first | refine aH (fun _ => ?_) fun _ => ?_ | refine gc_E (fun _ => ?_) fun _ => ?_ | refine gc_N (fun _ => ?_) fun _ => ?_ | refine aT ?_ | refine gc_B (fun _ => ?_) fun _ => ?_) | fail)
  rfl
 ·((first | refine aJ ?_ | skip); refine bX (cf := dQ) rfl rfl rfl rfl ?_; unfold dQ; dsimp only [aB, Nat.reduceAdd, Nat.zero_add])
  repeat' (first | refine aS ?_ | refine yc ?_ (ha := by first | exact hpo _ _ | exact hm _ _ | exact hs _ _ | exact aEa (x := z) | assumption) | (show zn; refine aA ?_ (ha := by first | exact hpo _ _ | exact hm _ _ | exact hs _ _ | exact aEa (x := z) | assumption)) | (show gA; first | refine aH (fun _ => ?_) fun _ => ?_ | refine gc_E (fun _ => ?_) fun _ => ?_ | refine gc_N (fun _ => ?_) fun _ => ?_ | refine aT ?_ | refine gc_B (fun _ => ?_) fun _ => ?_) | fail)
  rfl
set_option maxHeartbeats 4000000 in
theorem aX8 {c : Config} {P : Nat → List Port} {S : Nat → List Slot} (h : NetR c P S) (hS : ∀ p, (S p).length ≤ 1000) (hP : ∀ p, (P p).length ≤ 1000) {s : Option Nat} {H : aC} {p n ppm : Int} {x : Node} {m : Item} (hl : m.body.length ≤ 1000) :
 Call tab s xH [c.v, .int .i64 p, .int .i64 n, x.v, .int .i64 ppm, m.v] H = some (aC1 c P S p n x ppm m, H) := by
 unfold aC1
 by_cases hp : 0 ≤ p ∧ p < c.parts.length
 ·rw [if_pos hp]
  obtain ⟨q, rfl⟩ : ∃ q : Nat, p = q := ⟨p.toNat, by omega⟩
  rw [Int.toNat_natCast]
  have ho := fun s H => aTe (s := s) (H := H) h.toNet (p := q) (by omega)
  have hm := fun s H => aX7 (c := c) (P := P) (S := S) (s := s) (H := H) (p := q) (n := n) (ppm := ppm) (x := x) (m := m) h.dr (hS q) (hP q) hl
  obtain ⟨y, b, e⟩ := aGy c (P q) (S q) q n x ppm m
  rw [e] at hm ⊢
  unfold Config.v View.v dW Node.v Item.v Say.v at *
  ((first | refine aJ ?_ | skip); refine bX (cf := gV) rfl rfl rfl rfl ?_; unfold gV; dsimp only [aB, Nat.reduceAdd, Nat.zero_add])
  repeat' (first | refine aS ?_ | refine yc ?_ (ha := by first | exact ho _ _ | exact hm _ _ | assumption) | (show zn; refine aA ?_ (ha := by first | exact ho _ _ | exact hm _ _ | assumption)) | (show gA; first | refine aH (fun _ => ?_) fun _ => ?_ | refine gc_E (fun _ => ?_) fun _ => ?_ | refine gc_N (fun _ => ?_) fun _ => ?_ | refine aT ?_ | refine gc_B (fun _ => ?_) fun _ => ?_) | fail)
  rfl
 ·rw [if_neg hp]
  have ho := fun s H => aTf (s := s) (H := H) h.toNet hp
  unfold Config.v View.v view0 Node.v Item.v Say.v say0 at *
  simp only [aO, List.length_nil] at ho ⊢
  ((first | refine aJ ?_ | skip); refine bX (cf := gV) rfl rfl rfl rfl ?_; unfold gV; dsimp only [aB, Nat.reduceAdd, Nat.zero_add])
  repeat' (first | refine aS ?_ | refine yc ?_ (ha := by first | exact ho _ _ | assumption) | (show zn; refine aA ?_ (ha := by first | exact ho _ _ | assumption)) | (show gA; first | refine aH (fun _ => ?_) fun _ => ?_ | refine gc_E (fun _ => ?_) fun _ => ?_ | refine gc_N (fun _ => ?_) fun _ => ?_ | refine aT ?_ | refine gc_B (fun _ => ?_) fun _ => ?_) | fail)
  rfl
set_option maxHeartbeats 4000000 in
theorem aTb {c : Config} {P : Nat → List Port} {S : Nat → List Slot} (h : NetR c P S) (hS : ∀ p, (S p).length ≤ 1000) (hR : xO c P) {s : Option Nat} {H : aC} {p n ppm : Int} {x : Node} {m : Item} (hl : m.body.length ≤ 1000) :
 Call tab s xI [c.v, .int .i64 p, .int .i64 n, x.v, .int .i64 ppm, m.v] H = some (aC1 c P S p n x ppm m, H) := by
 have hmay := fun s H => aIi (s := s) (H := H) h.toNet (p := p) (x := x) (ppm := ppm)
 have hdr := h.dr
 unfold aC1
 by_cases hp : 0 ≤ p ∧ p < c.parts.length
 rotate_left
 ·rw [if_neg hp]
  have hpo := fun s H => aF7 (s := s) (H := H) h.toNet (n := n) hp
  unfold Config.v Node.v Item.v port0 Port.v Say.v say0 at *
  ((first | refine aJ ?_ | skip); refine bX (cf := cM) rfl rfl rfl rfl ?_; unfold cM; dsimp only [aB, Nat.reduceAdd, Nat.zero_add])
  repeat' (first | refine aS ?_ | refine yc ?_ (ha := by first | exact hpo _ _ | assumption) | (show zn; refine aA ?_ (ha := by first | exact hpo _ _ | assumption)) | (show gA; first | refine aH (fun _ => ?_) fun _ => ?_ | refine gc_E (fun _ => ?_) fun _ => ?_ | refine gc_N (fun _ => ?_) fun _ => ?_ | refine aT ?_ | refine gc_B (fun _ => ?_) fun _ => ?_) | fail)
  simp only [aO, List.length_nil]
 rw [if_pos hp]
 obtain ⟨q, rfl⟩ : ∃ q : Nat, p = q := ⟨p.toNat, by omega⟩
 rw [Int.toNat_natCast]
 have hql : q < c.parts.length := by omega
 have hpo := fun s H => aJ3 (s := s) (H := H) h.toNet hR (n := n) hql
 unfold aC0
 by_cases h0 : kC (P q) n < 0
 ·rw [if_neg (fun h => h.1 h0)]
  rw [s8 h0] at hpo
  unfold Config.v Node.v Item.v port0 Port.v Say.v say0 at *
  ((first | refine aJ ?_ | skip); refine bX (cf := cM) rfl rfl rfl rfl ?_; unfold cM; dsimp only [aB, Nat.reduceAdd, Nat.zero_add])
  repeat' (first | refine aS ?_ | refine yc ?_ (ha := by first | exact hpo _ _ | assumption) | (show zn; refine aA ?_ (ha := by first | exact hpo _ _ | assumption)) | (show gA; first | refine aH (fun _ => ?_) fun _ => ?_ | refine gc_E (fun _ => ?_) fun _ => ?_ | refine gc_N (fun _ => ?_) fun _ => ?_ | refine aT ?_ | refine gc_B (fun _ => ?_) fun _ => ?_) | fail)
  simp only [aO, List.length_nil]
 obtain ⟨y, hy, hyl⟩ := s9 h0
 rw [hy] at hpo
 rw [hyl]
 by_cases h1 : c8 c x ppm
 rotate_left
 ·have h1' : decide ((0 ≤ (q : Int) ∧ (q : Int) < c.parts.length) ∧ c8 c x ppm) = false := decide_eq_false (fun k => h1 k.2)
  simp only [h1'] at hmay
  rw [if_neg (fun k => h1 k.2.1)]
  unfold Config.v Node.v Item.v Port.v Say.v say0 at *
  ((first | refine aJ ?_ | skip); refine bX (cf := cM) rfl rfl rfl rfl ?_; unfold cM; dsimp only [aB, Nat.reduceAdd, Nat.zero_add])
  repeat' (first | refine aS ?_ | refine yc ?_ (ha := by first | exact hpo _ _ | exact hmay _ _ | assumption) | (show zn; refine aA ?_ (ha := by first | exact hpo _ _ | exact hmay _ _ | assumption)) | (show gA; first | refine aH (fun _ => ?_) fun _ => ?_ | refine gc_E (fun _ => ?_) fun _ => ?_ | refine gc_N (fun _ => ?_) fun _ => ?_ | refine aT ?_ | refine gc_B (fun _ => ?_) fun _ => ?_) | fail)
  simp only [aO, List.length_nil]
 have h1' : decide ((0 ≤ (q : Int) ∧ (q : Int) < c.parts.length) ∧ c8 c x ppm) = true := decide_eq_true ⟨hp, h1⟩
 simp only [h1'] at hmay
 by_cases h2 : x.state = 2
 rotate_left
 ·rw [if_neg (fun h => h2 h.2.2)]
  unfold Config.v Node.v Item.v Port.v Say.v say0 at *
  ((first | refine aJ ?_ | skip); refine bX (cf := cM) rfl rfl rfl rfl ?_; unfold cM; dsimp only [aB, Nat.reduceAdd, Nat.zero_add])
  repeat' (first | refine aS ?_ | refine yc ?_ (ha := by first | exact hpo _ _ | exact hmay _ _ | assumption) | (show zn; refine aA ?_ (ha := by first | exact hpo _ _ | exact hmay _ _ | assumption)) | (show gA; first | refine aH (fun _ => ?_) fun _ => ?_ | refine gc_E (fun _ => ?_) fun _ => ?_ | refine gc_N (fun _ => ?_) fun _ => ?_ | refine aT ?_ | refine gc_B (fun _ => ?_) fun _ => ?_) | fail)
  simp only [aO, List.length_nil]
 rw [if_pos ⟨h0, h1, h2⟩]
 have hs : ∀ s H, Call tab s dX [c.v, .int .i64 (q : Int), .int .i64 5, .int .i64 n, (C7 0 0 y.link m.frm m.to m.seq m.body).v, .int .i64 x.start, .int .i64 (x.drift + ppm)] H = some (spk (S q) 5 (C7 q n y.link m.frm m.to m.seq m.body) x.start (x.drift + ppm), H) := fun s H => uU (f := C7 0 0 y.link m.frm m.to m.seq m.body) h hql (hS q) (Nat.zero_le _) hl
 obtain ⟨z, b, e⟩ := aJ0 (S q) 5 (C7 q n y.link m.frm m.to m.seq m.body) x.start (x.drift + ppm)
 rw [e] at hs ⊢
 simp only [C7] at hs
 unfold Config.v Node.v Item.v Port.v Say.v Frame.v at *
 simp only [aO, List.length_nil] at hs
 ((first | refine aJ ?_ | skip); refine bX (cf := cM) rfl rfl rfl rfl ?_; unfold cM; dsimp only [aB, Nat.reduceAdd, Nat.zero_add])
 repeat' (first | refine aS ?_ | refine yc ?_ (ha := by first | exact hpo _ _ | exact hmay _ _ | exact hs _ _ | assumption) | (show zn; refine aA ?_ (ha := by first | exact hpo _ _ | exact hmay _ _ | exact hs _ _ | assumption)) | (show gA; first | refine aH (fun _ => ?_) fun _ => ?_ | refine gc_E (fun _ => ?_) fun _ => ?_ | refine gc_N (fun _ => ?_) fun _ => ?_ | refine aT ?_ | refine gc_B (fun _ => ?_) fun _ => ?_) | fail)
 rfl
end Go.Abs
namespace Go.Abs
open Go.Proofs.YtpcnjabfiahhhaaGreatDoor
attribute [local irreducible] enL R RR fP fB pX fK fQ pU apply fT gQ bW bZ eJ bR iL bG bD eC cR kD dO V.rb V.rbL
set_option maxHeartbeats 4000000 in
theorem aK3 {us : List V} (h : aHb [.int .i64, .int .i64, .int .i64, C6, .int .i64, aCh] us) : Call tab none oL us [] = some (.bool true, []) := by
 obtain ⟨_, _, rfl, h1, _, _, rfl, h2, _, _, rfl, h3, _, _, rfl, h4, _, _, rfl, h6, _, _, rfl, h5, rfl⟩ := h
 obtain ⟨m, rfl, _⟩ := k7 h1
 obtain ⟨p, rfl, _⟩ := k7 h2
 obtain ⟨n, rfl, _⟩ := k7 h3
 obtain ⟨ppm, rfl, _⟩ := k7 h6
 obtain ⟨cs, rfl, h4⟩ := h4
 obtain ⟨x, rfl, _⟩ := aJd h4
 obtain ⟨cs, rfl, h5⟩ := h5
 obtain ⟨w, rfl, _⟩ := aR0 h5
 clear h1 h2 h3 h4 h5 h6
 show Call tab none oL [.int .i64 m, .int .i64 p, .int .i64 n, x.v, .int .i64 ppm, w.v] [] = _
 by_cases hx : x.ages.length ≤ 30
 ·by_cases hy : w.body.length ≤ 100
  ·obtain ⟨c, P, S, hN, hS, hR, hP, hM⟩ := aFs (s := some 0) (H := [Cel.enc x, Cel.enc w]) m
   obtain ⟨y, b, hyy⟩ := aQk c P S p n x ppm w
   have h1 := fun s H => aX8 hN hS hP (s := s) (H := H) (p := p) (n := n) (ppm := ppm) (x := x) (m := w) (by omega)
   have h2 := fun s H => aTb hN hS hR (s := s) (H := H) (p := p) (n := n) (ppm := ppm) (x := x) (m := w) (by omega)
   have h3 := fun s H => aOk (s := s) (H := H) (y := y)
   rw [hyy] at h1 h2
   have hM : Call tab (some 0) cY [.int .i64 m] ([] ++ [[.int .i64 x.state, .int .i64 x.wait, .int .i64 x.drift, .int .i64 x.start, .int .i64 x.cycle, .sl none x.ages.length (enL x.ages), .int .i64 x.mask, .int .i64 x.bad]] ++ [[.int .i64 w.frm, .int .i64 w.to, .int .i64 w.seq, .sl none w.body.length (enL w.body)]]) = _ := hM
   unfold Node.v Item.v Config.v Say.v at *
   ((first | refine aJ ?_ | skip); refine bX (cf := cJ) rfl rfl rfl rfl ?_; unfold cJ; dsimp only [aB, Nat.reduceAdd, Nat.zero_add])
   repeat' (first | refine aS ?_ | refine yc ?_ (ha := by first | exact mQ | exact hM | exact h1 _ _ | exact h2 _ _ | exact h3 _ _ | assumption) | (show zn; refine aA ?_ (ha := by first | exact mQ | exact hM | exact h1 _ _ | exact h2 _ _ | exact h3 _ _ | assumption)) | (show gA; first | refine aH (fun _ => ?_) fun _ => ?_ | refine gc_E (fun _ => ?_) fun _ => ?_ | refine gc_N (fun _ => ?_) fun _ => ?_ | refine aT ?_ | refine gc_B (fun _ => ?_) fun _ => ?_) | fail)
   rw [beq_self_eq_true]
  ·unfold Node.v Item.v
   ((first | refine aJ ?_ | skip); refine bX (cf := cJ) rfl rfl rfl rfl ?_; unfold cJ; dsimp only [aB, Nat.reduceAdd, Nat.zero_add])
   repeat' (first | refine aS ?_ | refine yc ?_ (ha := by first | exact mQ | assumption) | (show zn; refine aA ?_ (ha := by first | exact mQ | assumption)) | (show gA; first | refine aH (fun _ => ?_) fun _ => ?_ | refine gc_E (fun _ => ?_) fun _ => ?_ | refine gc_N (fun _ => ?_) fun _ => ?_ | refine aT ?_ | refine gc_B (fun _ => ?_) fun _ => ?_) | fail)
   all_goals rfl
 ·unfold Node.v Item.v
  ((first | refine aJ ?_ | skip); refine bX (cf := cJ) rfl rfl rfl rfl ?_; unfold cJ; dsimp only [aB, Nat.reduceAdd, Nat.zero_add])
  repeat' (first | refine aS ?_ | refine yc ?_ (ha := by first | exact mQ | assumption) | (show zn; refine aA ?_ (ha := by first | exact mQ | assumption)) | (show gA; first | refine aH (fun _ => ?_) fun _ => ?_ | refine gc_E (fun _ => ?_) fun _ => ?_ | refine gc_N (fun _ => ?_) fun _ => ?_ | refine aT ?_ | refine gc_B (fun _ => ?_) fun _ => ?_) | fail)
  all_goals rfl
end Go.Abs
