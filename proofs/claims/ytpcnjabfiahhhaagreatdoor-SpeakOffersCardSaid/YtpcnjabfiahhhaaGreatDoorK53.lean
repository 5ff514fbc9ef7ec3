/- A part of the proof of RowSpeakOffers, RowSpeakMessages: lemmas alone, without conditions. -/
import Derived.Test.YtpcnjabfiahhhaaGreatDoorK50
import Derived.Test.YtpcnjabfiahhhaaGreatDoorK52
set_option linter.all false
namespace Go.Abs
open Go.Proofs.YtpcnjabfiahhhaaGreatDoor
attribute [local irreducible] enL R RR fP fB pX fK fQ pU apply fT gQ bW bZ eJ bR iL bG bD eC cR kD dO V.rb V.rbL
abbrev aJw : Ty := .st [.bool, .int .i64, .int .i64, .sl (.int .i64)]
theorem aXh {cs : List V} (h : vO aJw cs) : ∃ x : Far, cs = Cel.enc x ∧ True := by
 simp only [aJw, vO, TyL] at h
 obtain ⟨_, _, rfl, ⟨a, rfl⟩, _, _, rfl, ⟨b, rfl, _⟩, _, _, rfl, ⟨c, rfl, _⟩, f, _, rfl, hf, rfl⟩ := h
 obtain ⟨f', rfl, _⟩ := aLo (fun _ => aLn) (show vO (.sl (.int .i64)) f from by simpa only [vO] using hf)
 exact ⟨⟨a, b, c, f'⟩, rfl, trivial⟩
theorem aL7 (c : Config) (P : Nat → List Port) (S : Nat → List Slot) (p n : Int) (x : Node) (far : Far) : (wJ c P S p n x far).length ≤ 2 := by
 unfold wJ l8 O6
 repeat' split
 all_goals simp
theorem bBs {s : Option Nat} {H : aC} {L : List Say} (hl : L.length ≤ 2) : Call tab s E8 [.sl none L.length (enL L), .sl none L.length (enL L)] H = some (.bool true, H) := by
 ((first | refine aJ ?_ | skip); refine bX (cf := tX) rfl rfl rfl rfl ?_; unfold tX; dsimp only [aB, Nat.reduceAdd, Nat.zero_add])
 repeat' (first | refine aS ?_ | refine yc ?_ | (show zn; refine aA ?_) | (show gA; first | refine aH (fun _ => ?_) fun _ => ?_ | refine gc_E (fun _ => ?_) fun _ => ?_ | refine gc_N (fun _ => ?_) fun _ => ?_ | refine aT ?_ | refine gc_B (fun _ => ?_) fun _ => ?_) | fail)
 refine xU L.length (fun i (_ : Unit) => [(5, .int .i64 i)]) (fun _ _ => _) (fun i _ => True) ?_ ?_ () trivial
 ·intro i _ hi _ ih
  obtain ⟨x, hx⟩ := xT hi
  have hw : IntKind.i64.wrap ((i : Int) + 1) = ((i + 1 : Nat) : Int) := IntWalk.i64_in _ (by omega)
  have hil : (i : Int) < (L.length : Int) := by omega
  have h3 := fun s H => aOk (s := s) (H := H) (y := x)
  unfold Say.v at *
  refine cD (by dsimp only [pN, lk, Nat.reduceBEq, cond_true, cond_false, Option.getD_some, Option.getD_none]; first | done | exact rfl) ?_; refine aY ?_
  unfold uR
  repeat' (first | refine aS ?_ | refine yc ?_ (ha := by first | exact h3 _ _ | assumption) | (show zn; refine aA ?_ (ha := by first | exact h3 _ _ | assumption)) | (show gA; first | refine aH (fun _ => ?_) fun _ => ?_ | refine gc_E (fun _ => ?_) fun _ => ?_ | refine gc_N (fun _ => ?_) fun _ => ?_ | refine aT ?_ | refine gc_B (fun _ => ?_) fun _ => ?_) | fail)
  refine jQ ?_
  exact ih () trivial
 ·intro _ _
  refine cD (by dsimp only [pN, lk, Nat.reduceBEq, cond_true, cond_false, Option.getD_some, Option.getD_none]; first | done | exact rfl) ?_; refine aY ?_
  unfold uR
  repeat' (first | refine aS ?_ | refine yc ?_ | (show zn; refine aA ?_) | (show gA; first | refine aH (fun _ => ?_) fun _ => ?_ | refine gc_E (fun _ => ?_) fun _ => ?_ | refine gc_N (fun _ => ?_) fun _ => ?_ | refine aT ?_ | refine gc_B (fun _ => ?_) fun _ => ?_) | fail)
  rfl
set_option maxHeartbeats 4000000 in
theorem speakOffers {us : List V} (h : aHb [.int .i64, .int .i64, .int .i64, C6, aJw] us) : Call tab none qR us [] = some (.bool true, []) := by
 obtain ⟨_, _, rfl, h1, _, _, rfl, h2, _, _, rfl, h3, _, _, rfl, h4, _, _, rfl, h5, rfl⟩ := h
 obtain ⟨m, rfl, _⟩ := k7 h1
 obtain ⟨p, rfl, _⟩ := k7 h2
 obtain ⟨n, rfl, _⟩ := k7 h3
 obtain ⟨cs, rfl, h4⟩ := h4
 obtain ⟨x, rfl, _⟩ := aJd h4
 obtain ⟨cs, rfl, h5⟩ := h5
 obtain ⟨far, rfl, _⟩ := aXh h5
 clear h1 h2 h3 h4 h5
 show Call tab none qR [.int .i64 m, .int .i64 p, .int .i64 n, x.v, far.v] [] = _
 by_cases hx : x.ages.length ≤ 30
 ·by_cases hy : far.ages.length ≤ 30
  ·obtain ⟨c, P, S, hN, hS, hR, hP, hM⟩ := aFs (s := some 0) (H := [Cel.enc x, Cel.enc far]) m
   have h1 := fun s H => aRl hN hS hP (s := s) (H := H) (p := p) (n := n) (x := x) (far := far) (by omega)
   have h2 := fun s H => aNb hN hS hR (s := s) (H := H) (p := p) (n := n) (x := x) (far := far) (by omega)
   have h3 := fun s H => bBs (s := s) (H := H) (aL7 c P S p n x far)
   generalize wJ c P S p n x far = L at *
   have hM : Call tab (some 0) cY [.int .i64 m] ([] ++ [[.int .i64 x.state, .int .i64 x.wait, .int .i64 x.drift, .int .i64 x.start, .int .i64 x.cycle, .sl none x.ages.length (enL x.ages), .int .i64 x.mask, .int .i64 x.bad]] ++ [[.bool far.on, .int .i64 far.start, .int .i64 far.cycle, .sl none far.ages.length (enL far.ages)]]) = _ := hM
   unfold Node.v Far.v Config.v at *
   ((first | refine aJ ?_ | skip); refine bX (cf := cX) rfl rfl rfl rfl ?_; unfold cX; dsimp only [aB, Nat.reduceAdd, Nat.zero_add])
   repeat' (first | refine aS ?_ | refine yc ?_ (ha := by first | exact mQ | exact hM | exact h1 _ _ | exact h2 _ _ | exact h3 _ _ | assumption) | (show zn; refine aA ?_ (ha := by first | exact mQ | exact hM | exact h1 _ _ | exact h2 _ _ | exact h3 _ _ | assumption)) | (show gA; first | refine aH (fun _ => ?_) fun _ => ?_ | refine gc_E (fun _ => ?_) fun _ => ?_ | refine gc_N (fun _ => ?_) fun _ => ?_ | refine aT ?_ | refine gc_B (fun _ => ?_) fun _ => ?_) | fail)
   rfl
  ·unfold Node.v Far.v
   ((first | refine aJ ?_ | skip); refine bX (cf := cX) rfl rfl rfl rfl ?_; unfold cX; dsimp only [aB, Nat.reduceAdd, Nat.zero_add])
   repeat' (first | refine aS ?_ | refine yc ?_ (ha := by first | exact mQ | assumption) | (show zn; refine aA ?_ (ha := by first | exact mQ | assumption)) | (show gA; first | refine aH (fun _ => ?_) fun _ => ?_ | refine gc_E (fun _ => ?_) fun _ => ?_ | refine gc_N (fun _ => ?_) fun _ => ?_ | refine aT ?_ | refine gc_B (fun _ => ?_) fun _ => ?_) | fail)
   all_goals rfl
 ·unfold Node.v Far.v
  ((first | refine aJ ?_ | skip); refine bX (cf := cX) rfl rfl rfl rfl ?_; unfold cX; dsimp only [aB, Nat.reduceAdd, Nat.zero_add])
  repeat' (first | refine aS ?_ | refine yc ?_ (ha := by first | exact mQ | assumption) | (show zn; refine aA ?_ (ha := by first | exact mQ | assumption)) | (show gA; first | refine aH (fun _ => ?_) fun _ => ?_ | refine gc_E (fun _ => ?_) fun _ => ?_ | refine gc_N (fun _ => ?_) fun _ => ?_ | refine aT ?_ | refine gc_B (fun _ => ?_) fun _ => ?_) | fail)
  all_goals rfl
end Go.Abs
