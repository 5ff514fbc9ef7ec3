/- A part of the proof of RowSpeakOffers, RowSpeakMessages: lemmas alone, without conditions. -/
import Derived.Test.YtpcnjabfiahhhaaGreatDoorK48
import Derived.Test.YtpcnjabfiahhhaaGreatDoorK50
set_option linter.all false
namespace Go.Abs
open Go.Proofs.YtpcnjabfiahhhaaGreatDoor
attribute [local irreducible] enL R RR fP fB pX fK fQ pU apply fT gQ bW bZ eJ bR iL bG bD eC cR kD dO V.rb V.rbL
abbrev oQ (l : List Slot) (k : Int) (f : Frame) (start ppm : Int) : Prop := Spk l k f start ∧ Tm (qL l k f.node start ppm)
theorem aCx (l : List Slot) (k : Int) (f : Frame) (start ppm : Int) : ∃ x : Say, (if Spk l k f start then V.tup [(W7 l k f start ppm).v, .bool (decide (Tm (qL l k f.node start ppm)))] else .tup [say0.v, .bool false]) = .tup [x.v, .bool (decide (oQ l k f start ppm))] ∧ (oQ l k f start ppm → x = W7 l k f start ppm) := by
 by_cases h1 : Spk l k f start
 ·refine ⟨_, ?_, fun _ => rfl⟩
  rw [if_pos h1]
  by_cases h2 : Tm (qL l k f.node start ppm)
  ·rw [decide_eq_true h2, decide_eq_true ⟨h1, h2⟩]
  ·rw [decide_eq_false h2, decide_eq_false (fun h => h2 h.2)]
 ·refine ⟨say0, ?_, fun h => absurd h.1 h1⟩
  rw [if_neg h1, decide_eq_false (fun h => h1 h.1)]
theorem aCy (l : List Slot) (k : Int) (f : Frame) (start ppm : Int) : ∃ x : Say, spk l k f start ppm = .tup [x.v, .bool (decide (oQ l k f start ppm))] ∧ (oQ l k f start ppm → x = W7 l k f start ppm) := by
 unfold spk
 by_cases h : oQ l k f start ppm
 ·exact ⟨_, by rw [if_pos h, decide_eq_true h], fun _ => rfl⟩
 ·exact ⟨say0, by rw [if_neg h, decide_eq_false h], fun k => absurd k h⟩
def O6 (l : List Slot) (f g : Frame) (start ppm : Int) : List Say := if oQ l 3 f start ppm ∧ oQ l 4 g start ppm then [W7 l 3 f start ppm, W7 l 4 g start ppm] else []
def B5 (l : List Port) (n : Int) : Int := (l.getD (kC l n).toNat default).link
def l8 (c : Config) (ports : List Port) (slots : List Slot) (p n : Int) (x : Node) (far : Far) : List Say :=
 if ¬ kC ports n < 0 ∧ far.on = true ∧ c8 c x 0 ∧ Tm far.start then
  if x.state = 2 then O6 slots (qQ p n (B5 ports n) true far.cycle (x.start - far.start)) (oZ p n (B5 ports n) far.ages) x.start x.drift
  else if x.state = 1 then O6 slots (qQ p n (B5 ports n) false far.cycle 0) (oZ p n (B5 ports n) far.ages) far.start x.drift
  else []
 else []
theorem s8 {l : List Port} {n : Int} (h : kC l n < 0) : eD l n = .tup [port0.v, .bool false] := by unfold eD; rw [if_pos h]
theorem s9 {l : List Port} {n : Int} (h : ¬ kC l n < 0) : ∃ y : Port, eD l n = .tup [y.v, .bool true] ∧ B5 l n = y.link := by
 unfold eD; rw [if_neg h]; exact ⟨_, rfl, rfl⟩
set_option maxHeartbeats 4000000 in
theorem aRk {c : Config} {P : Nat → List Port} {S : Nat → List Slot} {s : Option Nat} {H : aC} {p : Nat} {n : Int} {x : Node} {far : Far} (hd : 0 ≤ c.drift ∧ c.drift ≤ 140) (hS : (S p).length ≤ 1000) (hP : (P p).length ≤ 1000) (hl : far.ages.length ≤ 1000) :
 Call tab s f8 [(dW c P S p).v, .int .i64 n, x.v, far.v] H = some (.sl (some 3) (l8 c (P p) (S p) p n x far).length (enL (l8 c (P p) (S p) p n x far)), H) := by
 have hm := fun s H => aLm (c := c) (P := P) (S := S) (s := s) (H := H) (p := p) (x := x) (ppm := 0) hd
 have hpo := fun s H => aMf (s := s) (H := H) (v := dW c P S p) (n := n) hP
 obtain ⟨on, fs, fc, fa⟩ := far
 unfold l8
 simp only
 by_cases h0 : kC (P p) n < 0
 ·rw [if_neg (fun h => h.1 h0)]
  rw [show eD (dW c P S p).ports n = _ from s8 h0] at hpo
  unfold View.v dW Node.v Far.v port0 Port.v at *
  ((first | refine aJ ?_ | skip); refine bX (cf := bI) rfl rfl rfl rfl ?_; unfold bI; dsimp only [aB, Nat.reduceAdd, Nat.zero_add])
  repeat' (first | refine aS ?_ | refine yc ?_ (ha := by first | exact hpo _ _ | assumption) | (show zn; refine aA ?_ (ha := by first | exact hpo _ _ | assumption)) | (show gA; first | refine aH (fun _ => ?_) fun _ => ?_ | refine gc_E (fun _ => ?_) fun _ => ?_ | refine gc_N (fun _ => ?_) fun _ => ?_ | refine aT ?_ | refine gc_B (fun _ => ?_) fun _ => ?_) | fail)
  simp only [aO, List.length_nil]
 obtain ⟨y, hy, hyl⟩ := s9 h0
 rw [show eD (dW c P S p).ports n = _ from hy] at hpo
 rw [hyl]
 have hs3 : ∀ b o st, ∀ s H, Call tab s dS [(dW c P S p).v, .int .i64 3, (qQ 0 n y.link b fc o).v, .int .i64 st, .int .i64 x.drift] H = _ := fun b o st s H => aQi (v := dW c P S p) (f := qQ 0 n y.link b fc o) hS (Nat.zero_le _) (Nat.zero_le _)
 have hs4 : ∀ st, ∀ s H, Call tab s dS [(dW c P S p).v, .int .i64 4, (oZ 0 n y.link fa).v, .int .i64 st, .int .i64 x.drift] H = _ := fun st s H => aQi (v := dW c P S p) (f := oZ 0 n y.link fa) hS hl (Nat.zero_le _)
 cases on
 ·rw [if_neg (fun h => by simpa using h.2.1)]
  unfold View.v dW Node.v Far.v Port.v at *
  ((first | refine aJ ?_ | skip); refine bX (cf := bI) rfl rfl rfl rfl ?_; unfold bI; dsimp only [aB, Nat.reduceAdd, Nat.zero_add])
  repeat' (first | refine aS ?_ | refine yc ?_ (ha := by first | exact hpo _ _ | assumption) | (show zn; refine aA ?_ (ha := by first | exact hpo _ _ | assumption)) | (show gA; first | refine aH (fun _ => ?_) fun _ => ?_ | refine gc_E (fun _ => ?_) fun _ => ?_ | refine gc_N (fun _ => ?_) fun _ => ?_ | refine aT ?_ | refine gc_B (fun _ => ?_) fun _ => ?_) | fail)
  simp only [aO, List.length_nil]
 by_cases h1 : c8 c x 0
 ·have h1' : decide (c8 c x 0) = true := decide_eq_true h1
  by_cases h2 : Tm fs
  ·have h2' : decide (Tm fs) = true := decide_eq_true h2
   rw [if_pos ⟨h0, rfl, h1, h2⟩]
   by_cases h3 : x.state = 2
   ·rw [if_pos h3]
    have hw : IntKind.i64.wrap (x.start - fs) = x.start - fs := IntWalk.i64_in _ (by have := h1.2.2.2.2; omega)
    obtain ⟨y3, q3, r3⟩ := aCx (S p) 3 (qQ p n y.link true fc (x.start - fs)) x.start x.drift
    obtain ⟨y4, q4, r4⟩ := aCx (S p) 4 (oZ p n y.link fa) x.start x.drift
    have e3 : ∀ s H, Call tab s dS [(dW c P S p).v, .int .i64 3, (qQ 0 n y.link true fc (x.start - fs)).v, .int .i64 x.start, .int .i64 x.drift] H = some (.tup [y3.v, .bool (decide (oQ (S p) 3 (qQ p n y.link true fc (x.start - fs)) x.start x.drift))], H) := fun s H => by rw [← q3]; exact hs3 _ _ _ s H
    have e4 : ∀ s H, Call tab s dS [(dW c P S p).v, .int .i64 4, (oZ 0 n y.link fa).v, .int .i64 x.start, .int .i64 x.drift] H = some (.tup [y4.v, .bool (decide (oQ (S p) 4 (oZ p n y.link fa) x.start x.drift))], H) := fun s H => by rw [← q4]; exact hs4 _ s H
    unfold O6
    clear q3 q4 hs3 hs4
    by_cases h5 : oQ (S p) 3 (qQ p n y.link true fc (x.start - fs)) x.start x.drift
    ·by_cases h6 : oQ (S p) 4 (oZ p n y.link fa) x.start x.drift
     ·rw [if_pos ⟨h5, h6⟩, ← r3 h5, ← r4 h6]
      rw [decide_eq_true h5] at e3
      rw [decide_eq_true h6] at e4
      clear r3 r4 h5 h6
      simp only [qQ, oZ] at e3 e4
      unfold View.v dW Node.v Far.v Port.v Frame.v Say.v at *
      simp only [aO, List.length_nil] at e3 e4
      ((first | refine aJ ?_ | skip); refine bX (cf := bI) rfl rfl rfl rfl ?_; unfold bI; dsimp only [aB, Nat.reduceAdd, Nat.zero_add])
      repeat' (first | refine aS ?_ | refine yc ?_ (ha := by first | exact hpo _ _ | exact hm _ _ | exact dH | exact e3 _ _ | exact e4 _ _ | assumption) | (show zn; refine aA ?_ (ha := by first | exact hpo _ _ | exact hm _ _ | exact dH | exact e3 _ _ | exact e4 _ _ | assumption)) | (show gA; first | refine aH (fun _ => ?_) fun _ => ?_ | refine gc_E (fun _ => ?_) fun _ => ?_ | refine gc_N (fun _ => ?_) fun _ => ?_ | refine aT ?_ | refine gc_B (fun _ => ?_) fun _ => ?_) | fail)
      rw [bT, bT, aO]; rfl
     ·rw [if_neg (fun h => h6 h.2)]
      rw [decide_eq_true h5] at e3
      rw [decide_eq_false h6] at e4
      clear r3 r4 h5 h6
      simp only [qQ, oZ] at e3 e4
      unfold View.v dW Node.v Far.v Port.v Frame.v Say.v at *
      simp only [aO, List.length_nil] at e3 e4
      ((first | refine aJ ?_ | skip); refine bX (cf := bI) rfl rfl rfl rfl ?_; unfold bI; dsimp only [aB, Nat.reduceAdd, Nat.zero_add])
      repeat' (first | refine aS ?_ | refine yc ?_ (ha := by first | exact hpo _ _ | exact hm _ _ | exact dH | exact e3 _ _ | exact e4 _ _ | assumption) | (show zn; refine aA ?_ (ha := by first | exact hpo _ _ | exact hm _ _ | exact dH | exact e3 _ _ | exact e4 _ _ | assumption)) | (show gA; first | refine aH (fun _ => ?_) fun _ => ?_ | refine gc_E (fun _ => ?_) fun _ => ?_ | refine gc_N (fun _ => ?_) fun _ => ?_ | refine aT ?_ | refine gc_B (fun _ => ?_) fun _ => ?_) | fail)
      simp only [aO, List.length_nil]
    ·rw [if_neg (fun h => h5 h.1)]
     rw [decide_eq_false h5] at e3
     generalize decide (oQ (S p) 4 (oZ p n y.link fa) x.start x.drift) = b4 at e4
     clear r3 r4 h5
     simp only [qQ, oZ] at e3 e4
     unfold View.v dW Node.v Far.v Port.v Frame.v Say.v at *
     simp only [aO, List.length_nil] at e3 e4
     ((first | refine aJ ?_ | skip); refine bX (cf := bI) rfl rfl rfl rfl ?_; unfold bI; dsimp only [aB, Nat.reduceAdd, Nat.zero_add])
     repeat' (first | refine aS ?_ | refine yc ?_ (ha := by first | exact hpo _ _ | exact hm _ _ | exact dH | exact e3 _ _ | exact e4 _ _ | assumption) | (show zn; refine aA ?_ (ha := by first | exact hpo _ _ | exact hm _ _ | exact dH | exact e3 _ _ | exact e4 _ _ | assumption)) | (show gA; first | refine aH (fun _ => ?_) fun _ => ?_ | refine gc_E (fun _ => ?_) fun _ => ?_ | refine gc_N (fun _ => ?_) fun _ => ?_ | refine aT ?_ | refine gc_B (fun _ => ?_) fun _ => ?_) | fail)
     simp only [aO, List.length_nil]
   ·rw [if_neg h3]
    by_cases h4 : x.state = 1
    ·rw [if_pos h4]
     obtain ⟨y3, q3, r3⟩ := aCx (S p) 3 (qQ p n y.link false fc 0) fs x.drift
     obtain ⟨y4, q4, r4⟩ := aCx (S p) 4 (oZ p n y.link fa) fs x.drift
     have e3 : ∀ s H, Call tab s dS [(dW c P S p).v, .int .i64 3, (qQ 0 n y.link false fc 0).v, .int .i64 fs, .int .i64 x.drift] H = some (.tup [y3.v, .bool (decide (oQ (S p) 3 (qQ p n y.link false fc 0) fs x.drift))], H) := fun s H => by rw [← q3]; exact hs3 _ _ _ s H
     have e4 : ∀ s H, Call tab s dS [(dW c P S p).v, .int .i64 4, (oZ 0 n y.link fa).v, .int .i64 fs, .int .i64 x.drift] H = some (.tup [y4.v, .bool (decide (oQ (S p) 4 (oZ p n y.link fa) fs x.drift))], H) := fun s H => by rw [← q4]; exact hs4 _ s H
     unfold O6
     clear q3 q4 hs3 hs4
     by_cases h5 : oQ (S p) 3 (qQ p n y.link false fc 0) fs x.drift
     ·by_cases h6 : oQ (S p) 4 (oZ p n y.link fa) fs x.drift
      ·rw [if_pos ⟨h5, h6⟩, ← r3 h5, ← r4 h6]
       rw [decide_eq_true h5] at e3
       rw [decide_eq_true h6] at e4
       clear r3 r4 h5 h6
       simp only [qQ, oZ] at e3 e4
       unfold View.v dW Node.v Far.v Port.v Frame.v Say.v at *
       simp only [aO, List.length_nil] at e3 e4
       ((first | refine aJ ?_ | skip); refine bX (cf := bI) rfl rfl rfl rfl ?_; unfold bI; dsimp only [aB, Nat.reduceAdd, Nat.zero_add])
       repeat' (first | refine aS ?_ | refine yc ?_ (ha := by first | exact hpo _ _ | exact hm _ _ | exact dH | exact e3 _ _ | exact e4 _ _ | assumption) | (show zn; refine aA ?_ (ha := by first | exact hpo _ _ | exact hm _ _ | exact dH | exact e3 _ _ | exact e4 _ _ | assumption)) | (show gA; first | refine aH (fun _ => ?_) fun _ => ?_ | refine gc_E (fun _ => ?_) fun _ => ?_ | refine gc_N (fun _ => ?_) fun _ => ?_ | refine aT ?_ | refine gc_B (fun _ => ?_) fun _ => ?_) | fail)
       rw [bT, bT, aO]; rfl
      ·rw [if_neg (fun h => h6 h.2)]
       rw [decide_eq_true h5] at e3
       rw [decide_eq_false h6] at e4
       clear r3 r4 h5 h6
       simp only [qQ, oZ] at e3 e4
       unfold View.v dW Node.v Far.v Port.v Frame.v Say.v at *
       simp only [aO, List.length_nil] at e3 e4
       ((first | refine aJ ?_ | skip); refine bX (cf := bI) rfl rfl rfl rfl ?_; unfold bI; dsimp only [aB, Nat.reduceAdd, Nat.zero_add])
       repeat' (first | refine aS ?_ | refine yc ?_ (ha := by first | exact hpo _ _ | exact hm _ _ | exact dH | exact e3 _ _ | exact e4 _ _ | assumption) | (show zn; refine aA ?_ (ha := by first | exact hpo _ _ | exact hm _ _ | exact dH | exact e3 _ _ | exact e4 _ _ | assumption)) | (show gA; first | refine aH (fun _ => ?_) fun _ => ?_ | refine gc_E (fun _ => ?_) fun _ => ?_ | refine gc_N (fun _ => ?_) fun _ => ?_ | refine aT ?_ | refine gc_B (fun _ => ?_) fun _ => ?_) | fail)
       simp only [aO, List.length_nil]
     ·rw [if_neg (fun h => h5 h.1)]
      rw [decide_eq_false h5] at e3
      generalize decide (oQ (S p) 4 (oZ p n y.link fa) fs x.drift) = b4 at e4
      clear r3 r4 h5
      simp only [qQ, oZ] at e3 e4
      unfold View.v dW Node.v Far.v Port.v Frame.v Say.v at *
      simp only [aO, List.length_nil] at e3 e4
      ((first | refine aJ ?_ | skip); refine bX (cf := bI) rfl rfl rfl rfl ?_; unfold bI; dsimp only [aB, Nat.reduceAdd, Nat.zero_add])
      repeat' (first | refine aS ?_ | refine yc ?_ (ha := by first | exact hpo _ _ | exact hm _ _ | exact dH | exact e3 _ _ | exact e4 _ _ | assumption) | (show zn; refine aA ?_ (ha := by first | exact hpo _ _ | exact hm _ _ | exact dH | exact e3 _ _ | exact e4 _ _ | assumption)) | (show gA; first | refine aH (fun _ => ?_) fun _ => ?_ | refine gc_E (fun _ => ?_) fun _ => ?_ | refine gc_N (fun _ => ?_) fun _ => ?_ | refine aT ?_ | refine gc_B (fun _ => ?_) fun _ => ?_) | fail)
      simp only [aO, List.length_nil]
    ·rw [if_neg h4]
     unfold View.v dW Node.v Far.v Port.v Frame.v Say.v at *
     ((first | refine aJ ?_ | skip); refine bX (cf := bI) rfl rfl rfl rfl ?_; unfold bI; dsimp only [aB, Nat.reduceAdd, Nat.zero_add])
     repeat' (first | refine aS ?_ | refine yc ?_ (ha := by first | exact hpo _ _ | exact hm _ _ | exact dH | assumption) | (show zn; refine aA ?_ (ha := by first | exact hpo _ _ | exact hm _ _ | exact dH | assumption)) | (show gA; first | refine aH (fun _ => ?_) fun _ => ?_ | refine gc_E (fun _ => ?_) fun _ => ?_ | refine gc_N (fun _ => ?_) fun _ => ?_ | refine aT ?_ | refine gc_B (fun _ => ?_) fun _ => ?_) | fail)
     simp only [aO, List.length_nil]
  ·have h2' : decide (Tm fs) = false := decide_eq_false h2
   rw [if_neg (fun h => h2 h.2.2.2)]
   unfold View.v dW Node.v Far.v Port.v Frame.v Say.v at *
   ((first | refine aJ ?_ | skip); refine bX (cf := bI) rfl rfl rfl rfl ?_; unfold bI; dsimp only [aB, Nat.reduceAdd, Nat.zero_add])
   repeat' (first | refine aS ?_ | refine yc ?_ (ha := by first | exact hpo _ _ | exact hm _ _ | exact dH | assumption) | (show zn; refine aA ?_ (ha := by first | exact hpo _ _ | exact hm _ _ | exact dH | assumption)) | (show gA; first | refine aH (fun _ => ?_) fun _ => ?_ | refine gc_E (fun _ => ?_) fun _ => ?_ | refine gc_N (fun _ => ?_) fun _ => ?_ | refine aT ?_ | refine gc_B (fun _ => ?_) fun _ => ?_) | fail)
   simp only [aO, List.length_nil]
 ·have h1' : decide (c8 c x 0) = false := decide_eq_false h1
  rw [if_neg (fun h => h1 h.2.2.1)]
  unfold View.v dW Node.v Far.v Port.v Frame.v Say.v at *
  ((first | refine aJ ?_ | skip); refine bX (cf := bI) rfl rfl rfl rfl ?_; unfold bI; dsimp only [aB, Nat.reduceAdd, Nat.zero_add])
  repeat' (first | refine aS ?_ | refine yc ?_ (ha := by first | exact hpo _ _ | exact hm _ _ | assumption) | (show zn; refine aA ?_ (ha := by first | exact hpo _ _ | exact hm _ _ | assumption)) | (show gA; first | refine aH (fun _ => ?_) fun _ => ?_ | refine gc_E (fun _ => ?_) fun _ => ?_ | refine gc_N (fun _ => ?_) fun _ => ?_ | refine aT ?_ | refine gc_B (fun _ => ?_) fun _ => ?_) | fail)
  simp only [aO, List.length_nil]
end Go.Abs
