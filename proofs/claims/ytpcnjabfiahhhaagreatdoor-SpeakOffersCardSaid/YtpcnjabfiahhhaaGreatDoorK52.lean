/- A part of the proof of RowSpeakOffers, RowSpeakMessages: lemmas alone, without conditions. -/
import Derived.Test.YtpcnjabfiahhhaaGreatDoorK51
set_option linter.all false
namespace Go.Abs
open Go.Proofs.YtpcnjabfiahhhaaGreatDoor
attribute [local irreducible] enL R RR fP fB pX fK fQ pU apply fT gQ bW bZ eJ bR iL bG bD eC cR kD dO V.rb V.rbL
def wJ (c : Config) (P : Nat → List Port) (S : Nat → List Slot) (p n : Int) (x : Node) (far : Far) : List Say := if 0 ≤ p ∧ p < c.parts.length then l8 c (P p.toNat) (S p.toNat) p n x far else []
set_option maxHeartbeats 2000000 in
theorem aRl {c : Config} {P : Nat → List Port} {S : Nat → List Slot} (h : NetR c P S) (hS : ∀ p, (S p).length ≤ 1000) (hP : ∀ p, (P p).length ≤ 1000) {s : Option Nat} {H : aC} {p n : Int} {x : Node} {far : Far} (hl : far.ages.length ≤ 1000) :
 Call tab s f4 [c.v, .int .i64 p, .int .i64 n, x.v, far.v] H = some (.sl (some 3) (wJ c P S p n x far).length (enL (wJ c P S p n x far)), H) := by
 unfold wJ
 by_cases hp : 0 ≤ p ∧ p < c.parts.length
 ·rw [if_pos hp]
  obtain ⟨q, rfl⟩ : ∃ q : Nat, p = q := ⟨p.toNat, by omega⟩
  rw [Int.toNat_natCast]
  have ho := fun s H => aTe (s := s) (H := H) h.toNet (p := q) (by omega)
  have hm := fun s H => aRk (c := c) (P := P) (S := S) (s := s) (H := H) (p := q) (n := n) (x := x) (far := far) h.dr (hS q) (hP q) hl
  generalize l8 c (P q) (S q) q n x far = L at *
  unfold Config.v View.v dW Node.v Far.v at *
  ((first | refine aJ ?_ | skip); refine bX (cf := jX) rfl rfl rfl rfl ?_; unfold jX; dsimp only [aB, Nat.reduceAdd, Nat.zero_add])
  repeat' (first | refine aS ?_ | refine yc ?_ (ha := by first | exact ho _ _ | exact hm _ _ | assumption) | (show zn; refine aA ?_ (ha := by first | exact ho _ _ | exact hm _ _ | assumption)) | (show gA; first | refine aH (fun _ => ?_) fun _ => ?_ | refine gc_E (fun _ => ?_) fun _ => ?_ | refine gc_N (fun _ => ?_) fun _ => ?_ | refine aT ?_ | refine gc_B (fun _ => ?_) fun _ => ?_) | fail)
  rfl
 ·rw [if_neg hp]
  have ho := fun s H => aTf (s := s) (H := H) h.toNet hp
  unfold Config.v View.v view0 Node.v Far.v at *
  simp only [aO, List.length_nil] at ho ⊢
  ((first | refine aJ ?_ | skip); refine bX (cf := jX) rfl rfl rfl rfl ?_; unfold jX; dsimp only [aB, Nat.reduceAdd, Nat.zero_add])
  repeat' (first | refine aS ?_ | refine yc ?_ (ha := by first | exact ho _ _ | assumption) | (show zn; refine aA ?_ (ha := by first | exact ho _ _ | assumption)) | (show gA; first | refine aH (fun _ => ?_) fun _ => ?_ | refine gc_E (fun _ => ?_) fun _ => ?_ | refine gc_N (fun _ => ?_) fun _ => ?_ | refine aT ?_ | refine gc_B (fun _ => ?_) fun _ => ?_) | fail)
  rfl
theorem aJ3 {c : Config} {P : Nat → List Port} {S : Nat → List Slot} (h : Net c P S) (hR : xO c P) {s : Option Nat} {H : aC} {p : Nat} {n : Int} (hp : p < c.parts.length) : Call tab s sU [c.v, .int .i64 (p : Int), .int .i64 n] H = some (eD (P p) n, H) := by
 have hg := fun s H => aJe (s := s) (H := H) h (p := (p : Int))
 rw [decide_eq_true (show 0 ≤ (p : Int) ∧ (p : Int) < c.parts.length by omega)] at hg
 have hr := fun s H => hR s H p n hp
 obtain ⟨y, b, e⟩ : ∃ (y : Port) (b : Bool), eD (P p) n = .tup [y.v, .bool b] := by
  unfold eD; split
  ·exact ⟨_, _, rfl⟩
  ·exact ⟨_, _, rfl⟩
 rw [e] at hr ⊢
 unfold Config.v Port.v at *
 ((first | refine aJ ?_ | skip); refine bX (cf := nK) rfl rfl rfl rfl ?_; unfold nK; dsimp only [aB, Nat.reduceAdd, Nat.zero_add])
 repeat' (first | refine aS ?_ | refine yc ?_ (ha := by first | exact hg _ _ | exact hr _ _ | assumption) | (show zn; refine aA ?_ (ha := by first | exact hg _ _ | exact hr _ _ | assumption)) | (show gA; first | refine aH (fun _ => ?_) fun _ => ?_ | refine gc_E (fun _ => ?_) fun _ => ?_ | refine gc_N (fun _ => ?_) fun _ => ?_ | refine aT ?_ | refine gc_B (fun _ => ?_) fun _ => ?_) | fail)
 rfl
theorem aF7 {c : Config} {P : Nat → List Port} {S : Nat → List Slot} (h : Net c P S) {s : Option Nat} {H : aC} {p n : Int} (hp : ¬ (0 ≤ p ∧ p < c.parts.length)) : Call tab s sU [c.v, .int .i64 p, .int .i64 n] H = some (.tup [port0.v, .bool false], H) := by
 have hg := fun s H => aJe (s := s) (H := H) h (p := p)
 rw [decide_eq_false hp] at hg
 unfold Config.v Port.v port0 at *
 ((first | refine aJ ?_ | skip); refine bX (cf := nK) rfl rfl rfl rfl ?_; unfold nK; dsimp only [aB, Nat.reduceAdd, Nat.zero_add])
 repeat' (first | refine aS ?_ | refine yc ?_ (ha := by first | exact hg _ _ | assumption) | (show zn; refine aA ?_ (ha := by first | exact hg _ _ | assumption)) | (show gA; first | refine aH (fun _ => ?_) fun _ => ?_ | refine gc_E (fun _ => ?_) fun _ => ?_ | refine gc_N (fun _ => ?_) fun _ => ?_ | refine aT ?_ | refine gc_B (fun _ => ?_) fun _ => ?_) | fail)
 rfl
set_option maxHeartbeats 4000000 in
theorem aNb {c : Config} {P : Nat → List Port} {S : Nat → List Slot} (h : NetR c P S) (hS : ∀ p, (S p).length ≤ 1000) (hR : xO c P) {s : Option Nat} {H : aC} {p n : Int} {x : Node} {far : Far} (hl : far.ages.length ≤ 1000) :
 Call tab s f7 [c.v, .int .i64 p, .int .i64 n, x.v, far.v] H = some (.sl (some 3) (wJ c P S p n x far).length (enL (wJ c P S p n x far)), H) := by
 have hmay := fun s H => aIi (s := s) (H := H) h.toNet (p := p) (x := x) (ppm := 0)
 obtain ⟨on, fs, fc, fa⟩ := far
 unfold wJ
 by_cases hp : 0 ≤ p ∧ p < c.parts.length
 rotate_left
 ·rw [if_neg hp]
  have hpo := fun s H => aF7 (s := s) (H := H) h.toNet (n := n) hp
  unfold port0 at *
  unfold Config.v Node.v Far.v Port.v at *
  ((first | refine aJ ?_ | skip); refine bX (cf := bB) rfl rfl rfl rfl ?_; unfold bB; dsimp only [aB, Nat.reduceAdd, Nat.zero_add])
  repeat' (first | refine aS ?_ | refine yc ?_ (ha := by first | exact hpo _ _ | assumption) | (show zn; refine aA ?_ (ha := by first | exact hpo _ _ | assumption)) | (show gA; first | refine aH (fun _ => ?_) fun _ => ?_ | refine gc_E (fun _ => ?_) fun _ => ?_ | refine gc_N (fun _ => ?_) fun _ => ?_ | refine aT ?_ | refine gc_B (fun _ => ?_) fun _ => ?_) | fail)
  simp only [aO, List.length_nil]
 rw [if_pos hp]
 obtain ⟨q, rfl⟩ : ∃ q : Nat, p = q := ⟨p.toNat, by omega⟩
 rw [Int.toNat_natCast]
 have hql : q < c.parts.length := by omega
 have hpo := fun s H => aJ3 (s := s) (H := H) h.toNet hR (n := n) hql
 unfold l8
 simp only
 by_cases h0 : kC (P q) n < 0
 ·rw [if_neg (fun h => h.1 h0)]
  rw [s8 h0] at hpo
  unfold port0 at *
  unfold Config.v Node.v Far.v Port.v at *
  ((first | refine aJ ?_ | skip); refine bX (cf := bB) rfl rfl rfl rfl ?_; unfold bB; dsimp only [aB, Nat.reduceAdd, Nat.zero_add])
  repeat' (first | refine aS ?_ | refine yc ?_ (ha := by first | exact hpo _ _ | assumption) | (show zn; refine aA ?_ (ha := by first | exact hpo _ _ | assumption)) | (show gA; first | refine aH (fun _ => ?_) fun _ => ?_ | refine gc_E (fun _ => ?_) fun _ => ?_ | refine gc_N (fun _ => ?_) fun _ => ?_ | refine aT ?_ | refine gc_B (fun _ => ?_) fun _ => ?_) | fail)
  simp only [aO, List.length_nil]
 obtain ⟨y, hy, hyl⟩ := s9 h0
 rw [hy] at hpo
 rw [hyl]
 cases on
 ·rw [if_neg (fun h => by simpa using h.2.1)]
  unfold Config.v Node.v Far.v Port.v at *
  ((first | refine aJ ?_ | skip); refine bX (cf := bB) rfl rfl rfl rfl ?_; unfold bB; dsimp only [aB, Nat.reduceAdd, Nat.zero_add])
  repeat' (first | refine aS ?_ | refine yc ?_ (ha := by first | exact hpo _ _ | assumption) | (show zn; refine aA ?_ (ha := by first | exact hpo _ _ | assumption)) | (show gA; first | refine aH (fun _ => ?_) fun _ => ?_ | refine gc_E (fun _ => ?_) fun _ => ?_ | refine gc_N (fun _ => ?_) fun _ => ?_ | refine aT ?_ | refine gc_B (fun _ => ?_) fun _ => ?_) | fail)
  simp only [aO, List.length_nil]
 by_cases h1 : c8 c x 0
 ·have h1' : decide ((0 ≤ (q : Int) ∧ (q : Int) < c.parts.length) ∧ c8 c x 0) = true := decide_eq_true ⟨hp, h1⟩
  simp only [h1'] at hmay
  by_cases h2 : Tm fs
  ·have h2' : decide (Tm fs) = true := decide_eq_true h2
   rw [if_pos ⟨h0, rfl, h1, h2⟩]
   by_cases h3 : x.state = 2
   ·rw [if_pos h3]
    have hw : IntKind.i64.wrap (x.start - fs) = x.start - fs := IntWalk.i64_in _ (by have := h1.2.2.2.2; omega)
    obtain ⟨y3, q3, r3⟩ := aCy (S q) 3 (qQ q n y.link true fc (x.start - fs)) x.start x.drift
    obtain ⟨y4, q4, r4⟩ := aCy (S q) 4 (oZ q n y.link fa) x.start x.drift
    have e3 : ∀ s H, Call tab s dX [c.v, .int .i64 (q : Int), .int .i64 3, .int .i64 n, (qQ 0 0 y.link true fc (x.start - fs)).v, .int .i64 x.start, .int .i64 x.drift] H = some (.tup [y3.v, .bool (decide (oQ (S q) 3 (qQ q n y.link true fc (x.start - fs)) x.start x.drift))], H) := fun s H => by rw [← q3]; exact uU (f := (qQ 0 0 y.link true fc (x.start - fs))) h hql (hS q) (Nat.zero_le _) (Nat.zero_le _)
    have e4 : ∀ s H, Call tab s dX [c.v, .int .i64 (q : Int), .int .i64 4, .int .i64 n, (oZ 0 0 y.link fa).v, .int .i64 x.start, .int .i64 x.drift] H = some (.tup [y4.v, .bool (decide (oQ (S q) 4 (oZ q n y.link fa) x.start x.drift))], H) := fun s H => by rw [← q4]; exact uU (f := (oZ 0 0 y.link fa)) h hql (hS q) hl (Nat.zero_le _)
    unfold O6
    clear q3 q4
    by_cases h5 : oQ (S q) 3 (qQ q n y.link true fc (x.start - fs)) x.start x.drift
    ·by_cases h6 : oQ (S q) 4 (oZ q n y.link fa) x.start x.drift
     ·rw [if_pos ⟨h5, h6⟩, ← r3 h5, ← r4 h6]
      rw [decide_eq_true h5] at e3
      rw [decide_eq_true h6] at e4
      clear r3 r4 h5 h6
      simp only [qQ, oZ] at e3 e4
      unfold Config.v Node.v Far.v Port.v Frame.v Say.v at *
      simp only [aO, List.length_nil] at e3 e4
      ((first | refine aJ ?_ | skip); refine bX (cf := bB) rfl rfl rfl rfl ?_; unfold bB; dsimp only [aB, Nat.reduceAdd, Nat.zero_add])
      repeat' (first | refine aS ?_ | refine yc ?_ (ha := by first | exact hpo _ _ | exact hmay _ _ | exact bH | exact e3 _ _ | exact e4 _ _ | assumption) | (show zn; refine aA ?_ (ha := by first | exact hpo _ _ | exact hmay _ _ | exact bH | exact e3 _ _ | exact e4 _ _ | assumption)) | (show gA; first | refine aH (fun _ => ?_) fun _ => ?_ | refine gc_E (fun _ => ?_) fun _ => ?_ | refine gc_N (fun _ => ?_) fun _ => ?_ | refine aT ?_ | refine gc_B (fun _ => ?_) fun _ => ?_) | fail)
      rw [bT, bT, aO]; rfl
     ·rw [if_neg (fun h => h6 h.2)]
      rw [decide_eq_true h5] at e3
      rw [decide_eq_false h6] at e4
      clear r3 r4 h5 h6
      simp only [qQ, oZ] at e3 e4
      unfold Config.v Node.v Far.v Port.v Frame.v Say.v at *
      simp only [aO, List.length_nil] at e3 e4
      ((first | refine aJ ?_ | skip); refine bX (cf := bB) rfl rfl rfl rfl ?_; unfold bB; dsimp only [aB, Nat.reduceAdd, Nat.zero_add])
      repeat' (first | refine aS ?_ | refine yc ?_ (ha := by first | exact hpo _ _ | exact hmay _ _ | exact bH | exact e3 _ _ | exact e4 _ _ | assumption) | (show zn; refine aA ?_ (ha := by first | exact hpo _ _ | exact hmay _ _ | exact bH | exact e3 _ _ | exact e4 _ _ | assumption)) | (show gA; first | refine aH (fun _ => ?_) fun _ => ?_ | refine gc_E (fun _ => ?_) fun _ => ?_ | refine gc_N (fun _ => ?_) fun _ => ?_ | refine aT ?_ | refine gc_B (fun _ => ?_) fun _ => ?_) | fail)
      simp only [aO, List.length_nil]
    ·rw [if_neg (fun h => h5 h.1)]
     rw [decide_eq_false h5] at e3
     generalize decide (oQ (S q) 4 (oZ q n y.link fa) x.start x.drift) = b4 at e4
     clear r3 r4 h5
     simp only [qQ, oZ] at e3 e4
     unfold Config.v Node.v Far.v Port.v Frame.v Say.v at *
     simp only [aO, List.length_nil] at e3 e4
     ((first | refine aJ ?_ | skip); refine bX (cf := bB) rfl rfl rfl rfl ?_; unfold bB; dsimp only [aB, Nat.reduceAdd, Nat.zero_add])
     repeat' (first | refine aS ?_ | refine yc ?_ (ha := by first | exact hpo _ _ | exact hmay _ _ | exact bH | exact e3 _ _ | exact e4 _ _ | assumption) | (show zn; refine aA ?_ (ha := by first | exact hpo _ _ | exact hmay _ _ | exact bH | exact e3 _ _ | exact e4 _ _ | assumption)) | (show gA; first | refine aH (fun _ => ?_) fun _ => ?_ | refine gc_E (fun _ => ?_) fun _ => ?_ | refine gc_N (fun _ => ?_) fun _ => ?_ | refine aT ?_ | refine gc_B (fun _ => ?_) fun _ => ?_) | fail)
     simp only [aO, List.length_nil]
   ·rw [if_neg h3]
    by_cases h4 : x.state = 1
    ·rw [if_pos h4]
     obtain ⟨y3, q3, r3⟩ := aCy (S q) 3 (qQ q n y.link false fc 0) fs x.drift
     obtain ⟨y4, q4, r4⟩ := aCy (S q) 4 (oZ q n y.link fa) fs x.drift
     have e3 : ∀ s H, Call tab s dX [c.v, .int .i64 (q : Int), .int .i64 3, .int .i64 n, (qQ 0 0 y.link false fc 0).v, .int .i64 fs, .int .i64 x.drift] H = some (.tup [y3.v, .bool (decide (oQ (S q) 3 (qQ q n y.link false fc 0) fs x.drift))], H) := fun s H => by rw [← q3]; exact uU (f := (qQ 0 0 y.link false fc 0)) h hql (hS q) (Nat.zero_le _) (Nat.zero_le _)
     have e4 : ∀ s H, Call tab s dX [c.v, .int .i64 (q : Int), .int .i64 4, .int .i64 n, (oZ 0 0 y.link fa).v, .int .i64 fs, .int .i64 x.drift] H = some (.tup [y4.v, .bool (decide (oQ (S q) 4 (oZ q n y.link fa) fs x.drift))], H) := fun s H => by rw [← q4]; exact uU (f := (oZ 0 0 y.link fa)) h hql (hS q) hl (Nat.zero_le _)
     unfold O6
     clear q3 q4
     by_cases h5 : oQ (S q) 3 (qQ q n y.link false fc 0) fs x.drift
     ·by_cases h6 : oQ (S q) 4 (oZ q n y.link fa) fs x.drift
      ·rw [if_pos ⟨h5, h6⟩, ← r3 h5, ← r4 h6]
       rw [decide_eq_true h5] at e3
       rw [decide_eq_true h6] at e4
       clear r3 r4 h5 h6
       simp only [qQ, oZ] at e3 e4
       unfold Config.v Node.v Far.v Port.v Frame.v Say.v at *
       simp only [aO, List.length_nil] at e3 e4
       ((first | refine aJ ?_ | skip); refine bX (cf := bB) rfl rfl rfl rfl ?_; unfold bB; dsimp only [aB, Nat.reduceAdd, Nat.zero_add])
       repeat' (first | refine aS ?_ | refine yc ?_ (ha := by first | exact hpo _ _ | exact hmay _ _ | exact bH | exact e3 _ _ | exact e4 _ _ | assumption) | (show zn; refine aA ?_ (ha := by first | exact hpo _ _ | exact hmay _ _ | exact bH | exact e3 _ _ | exact e4 _ _ | assumption)) | (show gA; first | refine aH (fun _ => ?_) fun _ => ?_ | refine gc_E (fun _ => ?_) fun _ => ?_ | refine gc_N (fun _ => ?_) fun _ => ?_ | refine aT ?_ | refine gc_B (fun _ => ?_) fun _ => ?_) | fail)
       rw [bT, bT, aO]; rfl
      ·rw [if_neg (fun h => h6 h.2)]
       rw [decide_eq_true h5] at e3
       rw [decide_eq_false h6] at e4
       clear r3 r4 h5 h6
       simp only [qQ, oZ] at e3 e4
       unfold Config.v Node.v Far.v Port.v Frame.v Say.v at *
       simp only [aO, List.length_nil] at e3 e4
       ((first | refine aJ ?_ | skip); refine bX (cf := bB) rfl rfl rfl rfl ?_; unfold bB; dsimp only [aB, Nat.reduceAdd, Nat.zero_add])
       repeat' (first | refine aS ?_ | refine yc ?_ (ha := by first | exact hpo _ _ | exact hmay _ _ | exact bH | exact e3 _ _ | exact e4 _ _ | assumption) | (show zn; refine aA ?_ (ha := by first | exact hpo _ _ | exact hmay _ _ | exact bH | exact e3 _ _ | exact e4 _ _ | assumption)) | (show gA; first | refine aH (fun _ => ?_) fun _ => ?_ | refine gc_E (fun _ => ?_) fun _ => ?_ | refine gc_N (fun _ => ?_) fun _ => ?_ | refine aT ?_ | refine gc_B (fun _ => ?_) fun _ => ?_) | fail)
       simp only [aO, List.length_nil]
     ·rw [if_neg (fun h => h5 h.1)]
      rw [decide_eq_false h5] at e3
      generalize decide (oQ (S q) 4 (oZ q n y.link fa) fs x.drift) = b4 at e4
      clear r3 r4 h5
      simp only [qQ, oZ] at e3 e4
      unfold Config.v Node.v Far.v Port.v Frame.v Say.v at *
      simp only [aO, List.length_nil] at e3 e4
      ((first | refine aJ ?_ | skip); refine bX (cf := bB) rfl rfl rfl rfl ?_; unfold bB; dsimp only [aB, Nat.reduceAdd, Nat.zero_add])
      repeat' (first | refine aS ?_ | refine yc ?_ (ha := by first | exact hpo _ _ | exact hmay _ _ | exact bH | exact e3 _ _ | exact e4 _ _ | assumption) | (show zn; refine aA ?_ (ha := by first | exact hpo _ _ | exact hmay _ _ | exact bH | exact e3 _ _ | exact e4 _ _ | assumption)) | (show gA; first | refine aH (fun _ => ?_) fun _ => ?_ | refine gc_E (fun _ => ?_) fun _ => ?_ | refine gc_N (fun _ => ?_) fun _ => ?_ | refine aT ?_ | refine gc_B (fun _ => ?_) fun _ => ?_) | fail)
      simp only [aO, List.length_nil]
    ·rw [if_neg h4]
     unfold Config.v Node.v Far.v Port.v at *
     ((first | refine aJ ?_ | skip); refine bX (cf := bB) rfl rfl rfl rfl ?_; unfold bB; dsimp only [aB, Nat.reduceAdd, Nat.zero_add])
     repeat' (first | refine aS ?_ | refine yc ?_ (ha := by first | exact hpo _ _ | exact hmay _ _ | exact bH | assumption) | (show zn; refine aA ?_ (ha := by first | exact hpo _ _ | exact hmay _ _ | exact bH | assumption)) | (show gA; first | refine aH (fun _ => ?_) fun _ => ?_ | refine gc_E (fun _ => ?_) fun _ => ?_ | refine gc_N (fun _ => ?_) fun _ => ?_ | refine aT ?_ | refine gc_B (fun _ => ?_) fun _ => ?_) | fail)
     simp only [aO, List.length_nil]
  ·have h2' : decide (Tm fs) = false := decide_eq_false h2
   rw [if_neg (fun h => h2 h.2.2.2)]
   unfold Config.v Node.v Far.v Port.v at *
   ((first | refine aJ ?_ | skip); refine bX (cf := bB) rfl rfl rfl rfl ?_; unfold bB; dsimp only [aB, Nat.reduceAdd, Nat.zero_add])
   repeat' (first | refine aS ?_ | refine yc ?_ (ha := by first | exact hpo _ _ | exact hmay _ _ | exact bH | assumption) | (show zn; refine aA ?_ (ha := by first | exact hpo _ _ | exact hmay _ _ | exact bH | assumption)) | (show gA; first | refine aH (fun _ => ?_) fun _ => ?_ | refine gc_E (fun _ => ?_) fun _ => ?_ | refine gc_N (fun _ => ?_) fun _ => ?_ | refine aT ?_ | refine gc_B (fun _ => ?_) fun _ => ?_) | fail)
   simp only [aO, List.length_nil]
 ·have h1' : decide ((0 ≤ (q : Int) ∧ (q : Int) < c.parts.length) ∧ c8 c x 0) = false := decide_eq_false (fun k => h1 k.2)
  simp only [h1'] at hmay
  rw [if_neg (fun h => h1 h.2.2.1)]
  unfold Config.v Node.v Far.v Port.v at *
  ((first | refine aJ ?_ | skip); refine bX (cf := bB) rfl rfl rfl rfl ?_; unfold bB; dsimp only [aB, Nat.reduceAdd, Nat.zero_add])
  repeat' (first | refine aS ?_ | refine yc ?_ (ha := by first | exact hpo _ _ | exact hmay _ _ | assumption) | (show zn; refine aA ?_ (ha := by first | exact hpo _ _ | exact hmay _ _ | assumption)) | (show gA; first | refine aH (fun _ => ?_) fun _ => ?_ | refine gc_E (fun _ => ?_) fun _ => ?_ | refine gc_N (fun _ => ?_) fun _ => ?_ | refine aT ?_ | refine gc_B (fun _ => ?_) fun _ => ?_) | fail)
  simp only [aO, List.length_nil]
end Go.Abs
