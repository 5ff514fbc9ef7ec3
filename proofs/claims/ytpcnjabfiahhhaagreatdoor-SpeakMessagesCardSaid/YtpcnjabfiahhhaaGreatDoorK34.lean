/- A part of the proof of RowSpeakOffers, RowSpeakMessages: lemmas alone, without conditions. -/
import Derived.Test.YtpcnjabfiahhhaaGreatDoorK33
set_option linter.all false
namespace Go.Abs
open Go.Proofs.YtpcnjabfiahhhaaGreatDoor
theorem aLb {s : Option Nat} {H : aC} {f : FuncId} {i o : Nat} : apply s (.mkf f) [.ptr i o] H = some (.fn f [.ptr i o], H) := rfl
theorem aU1 {s : Option Nat} {H : aC} {f : FuncId} {i o j p : Nat} : apply s (.mkf f) [.ptr i o, .ptr j p] H = some (.fn f [.ptr i o, .ptr j p], H) := rfl
attribute [local irreducible] enL R RR fP fB pX fK fQ pU apply fT gQ bW bZ eJ bR iL bG bD eC cR kD dO V.rb V.rbL
theorem aLc {s : Option Nat} {H : aC} {f : FuncId} {caps : List V} {p : Slot → Bool} {l : List Slot} (hr : V.rbL 0 caps = false) (hd2 : caps.map V.dis1 = caps) (hrl : V.rbL H.length caps = true) (hl : l.length ≤ 140737488355328) (hp : ∀ x ∈ l, Call tab (some H.length) f ([x.v] ++ caps.map V.dis1) H = some (.bool (p x), H)) (hpu : tab.pu f = true) :
 Call tab s fM [.sl none l.length (enL l), .fn f caps] H = some (.int .i64 (o4 p l 0), H) := by
 have hb : V.rbL 0 [.sl none l.length (enL l), .fn f caps] = false := by simp [V.rbL, V.rb, hr, iU]
 have hrf : V.rb H.length (.fn f caps) = true := by simp only [V.rb, hrl]
 unfold Slot.v at hp
 ((first | refine aJ ?_ | skip); refine aKo (cf := cK) rfl rfl rfl rfl hb ?_; unfold cK; dsimp only [aB, Nat.reduceAdd, Nat.zero_add])
 repeat' (first | refine aS ?_ | refine yc ?_ | (show zn; refine aA ?_) | (show gA; first | refine aH (fun _ => ?_) fun _ => ?_ | refine gc_E (fun _ => ?_) fun _ => ?_ | refine gc_N (fun _ => ?_) fun _ => ?_ | refine aT ?_ | refine gc_B (fun _ => ?_) fun _ => ?_) | fail)
 refine xU l.length (fun i (_ : Unit) => [(8, .int .i64 i)]) (fun _ _ => H) (fun i _ => o4 p l 0 = o4 p (l.drop i) i) ?_ ?_ () rfl
 ·intro i _ hi hq ih
  obtain ⟨x, hx⟩ := xT hi
  have hd := hp x (List.mem_of_getElem? hx)
  rw [A4 hx] at hq
  have hw : IntKind.i64.wrap ((i : Int) + 1) = ((i + 1 : Nat) : Int) := IntWalk.i64_in _ (by omega)
  have hil : (i : Int) < (l.length : Int) := by omega
  cases hb : p x
  ·rw [o0 hb] at hq
   rw [hb] at hd
   refine cD (by dsimp only [pN, lk, Nat.reduceBEq, cond_true, cond_false, Option.getD_some, Option.getD_none]; first | done | exact rfl) ?_; refine aY ?_
   unfold cG
   repeat' (first | refine aS ?_ | refine yc ?_ (ha := by first | exact hd | assumption) | (show zn; refine aA ?_ (ha := by first | exact hd | assumption)) | (show zv; refine fA ?_ (ha := by first | exact hd | assumption)) | (show zV; refine y_cav0 ?_ (ha := by first | exact hd | assumption)) | (show gA; first | refine aH (fun _ => ?_) fun _ => ?_ | refine gc_E (fun _ => ?_) fun _ => ?_ | refine gc_N (fun _ => ?_) fun _ => ?_ | refine aT ?_ | refine gc_B (fun _ => ?_) fun _ => ?_) | fail)
   refine jQ ?_
   exact ih () hq
  ·rw [c6 hb] at hq
   rw [hb] at hd
   refine cD (by dsimp only [pN, lk, Nat.reduceBEq, cond_true, cond_false, Option.getD_some, Option.getD_none]; first | done | exact rfl) ?_; refine aY ?_
   unfold cG
   repeat' (first | refine aS ?_ | refine yc ?_ (ha := by first | exact hd | assumption) | (show zn; refine aA ?_ (ha := by first | exact hd | assumption)) | (show zv; refine fA ?_ (ha := by first | exact hd | assumption)) | (show zV; refine y_cav0 ?_ (ha := by first | exact hd | assumption)) | (show gA; first | refine aH (fun _ => ?_) fun _ => ?_ | refine gc_E (fun _ => ?_) fun _ => ?_ | refine gc_N (fun _ => ?_) fun _ => ?_ | refine aT ?_ | refine gc_B (fun _ => ?_) fun _ => ?_) | fail)
   rw [hq]
 ·intro _ hq
  rw [List.drop_length] at hq
  refine cD (by dsimp only [pN, lk, Nat.reduceBEq, cond_true, cond_false, Option.getD_some, Option.getD_none]; first | done | exact rfl) ?_; refine aY ?_
  unfold cG
  repeat' (first | refine aS ?_ | refine yc ?_ | (show zn; refine aA ?_) | (show gA; first | refine aH (fun _ => ?_) fun _ => ?_ | refine gc_E (fun _ => ?_) fun _ => ?_ | refine gc_N (fun _ => ?_) fun _ => ?_ | refine aT ?_ | refine gc_B (fun _ => ?_) fun _ => ?_) | fail)
  rw [hq]; rfl
def uE (k n : Int) (x : Slot) : Bool := decide (x.kind = k ∧ x.node = n)
theorem aQv {s : Option Nat} {H : aC} {x : Slot} {k n : Int} {i j : Nat} (hi : H[i]? = some [.int .i64 k]) (hj : H[j]? = some [.int .i64 n]) : Call tab s qT [x.v, .ptr i 0, .ptr j 0] H = some (.bool (uE k n x), H) := by
 have hb : V.rbL 0 [x.v, .ptr i 0, .ptr j 0] = false := by simp [V.rbL, V.rb]
 unfold uE
 unfold Slot.v at *
 ((first | refine aJ ?_ | skip); refine aKo (cf := iQ) rfl rfl rfl rfl hb ?_; unfold iQ; dsimp only [aB, Nat.reduceAdd, Nat.zero_add])
 by_cases h1 : x.kind = k
 ·by_cases h2 : x.node = n
  ·rw [decide_eq_true ⟨h1, h2⟩]
   repeat' (first | refine aS ?_ | refine yc ?_ | (show zn; refine aA ?_) | (show gA; first | refine aH (fun _ => ?_) fun _ => ?_ | refine gc_E (fun _ => ?_) fun _ => ?_ | refine gc_N (fun _ => ?_) fun _ => ?_ | refine aT ?_ | refine gc_B (fun _ => ?_) fun _ => ?_) | fail)
   all_goals first | rfl | (rw [aZ4 h2])
  ·rw [decide_eq_false (fun h => h2 h.2)]
   repeat' (first | refine aS ?_ | refine yc ?_ | (show zn; refine aA ?_) | (show gA; first | refine aH (fun _ => ?_) fun _ => ?_ | refine gc_E (fun _ => ?_) fun _ => ?_ | refine gc_N (fun _ => ?_) fun _ => ?_ | refine aT ?_ | refine gc_B (fun _ => ?_) fun _ => ?_) | fail)
   all_goals first | rfl | (rw [aZ5 h2])
 ·rw [decide_eq_false (fun h => h1 h.1)]
  repeat' (first | refine aS ?_ | refine yc ?_ | (show zn; refine aA ?_) | (show gA; first | refine aH (fun _ => ?_) fun _ => ?_ | refine gc_E (fun _ => ?_) fun _ => ?_ | refine gc_N (fun _ => ?_) fun _ => ?_ | refine aT ?_ | refine gc_B (fun _ => ?_) fun _ => ?_) | fail)
  all_goals rfl
def jH (l : List Slot) (k n : Int) : Int := o4 (uE k n) l 0
theorem aU2 {s : Option Nat} {H : aC} {v : View} {k n : Int} (hl : v.slots.length ≤ 1000) : Call tab s sW [v.v, .int .i64 k, .int .i64 n] H = some (.int .i64 (jH v.slots k n), H) := by
 unfold View.v jH
 ((first | refine aJ ?_ | skip); refine bX (cf := kL) rfl rfl rfl rfl ?_; unfold kL; dsimp only [aB, Nat.reduceAdd, Nat.zero_add])
 repeat' (first | refine aS ?_ | refine yc ?_ | (show zn; refine aA ?_) | (show gA; first | refine aH (fun _ => ?_) fun _ => ?_ | refine gc_E (fun _ => ?_) fun _ => ?_ | refine gc_N (fun _ => ?_) fun _ => ?_ | refine aT ?_ | refine gc_B (fun _ => ?_) fun _ => ?_) | fail)
 refine d8 ?_ (ha := aU1)
 refine dE ?_ (ha := aLc (p := uE k n) ?h1 rfl ?h2 (by omega) (fun x hx => ?h3) rfl)
 case h1 => simp [V.rbL, V.rb]
 case h2 => simp [V.rbL, V.rb]
 case h3 => exact aQv (k := k) (n := n) (by simp) (by simp)
 repeat' (first | refine aS ?_ | refine yc ?_ | (show zn; refine aA ?_) | (show gA; first | refine aH (fun _ => ?_) fun _ => ?_ | refine gc_E (fun _ => ?_) fun _ => ?_ | refine gc_N (fun _ => ?_) fun _ => ?_ | refine aT ?_ | refine gc_B (fun _ => ?_) fun _ => ?_) | fail)
 rfl
theorem aQw {c : Config} {P : Nat → List Port} {S : Nat → List Slot} (h : NetR c P S) {s : Option Nat} {H : aC} {p : Nat} {k n : Int} (hp : p < c.parts.length) (hl : (S p).length ≤ 1000) : Call tab s yC [c.v, .int .i64 (p : Int), .int .i64 k, .int .i64 n] H = some (.int .i64 (jH (S p) k n), H) := by
 have h1 := h.rslt
 unfold Config.v jH at *
 ((first | refine aJ ?_ | skip); refine bX (cf := tY) rfl rfl rfl rfl ?_; unfold tY; dsimp only [aB, Nat.reduceAdd, Nat.zero_add])
 repeat' (first | refine aS ?_ | refine yc ?_ (ha := by first | exact h1 _ _ _ hp | assumption) | (show zn; refine aA ?_ (ha := by first | exact h1 _ _ _ hp | assumption)) | (show gA; first | refine aH (fun _ => ?_) fun _ => ?_ | refine gc_E (fun _ => ?_) fun _ => ?_ | refine gc_N (fun _ => ?_) fun _ => ?_ | refine aT ?_ | refine gc_B (fun _ => ?_) fun _ => ?_) | fail)
 generalize S p = l at *
 refine xU l.length (fun i (_ : Unit) => [(10, .int .i64 i)]) (fun _ _ => _) (fun i _ => o4 (uE k n) l 0 = o4 (uE k n) (l.drop i) i) ?_ ?_ () rfl
 ·intro i _ hi hq ih
  obtain ⟨x, hx⟩ := xT hi
  rw [A4 hx] at hq
  have hw : IntKind.i64.wrap ((i : Int) + 1) = ((i + 1 : Nat) : Int) := IntWalk.i64_in _ (by omega)
  have hil : (i : Int) < (l.length : Int) := by omega
  by_cases h1 : x.kind = k
  ·by_cases h2 : x.node = n
   ·rw [c6 (p := uE k n) (decide_eq_true ⟨h1, h2⟩)] at hq
    refine cD (by dsimp only [pN, lk, Nat.reduceBEq, cond_true, cond_false, Option.getD_some, Option.getD_none]; first | done | exact rfl) ?_; refine aY ?_
    unfold mK
    repeat' (first | refine aS ?_ | refine yc ?_ | (show zn; refine aA ?_) | (show gA; first | refine aH (fun _ => ?_) fun _ => ?_ | refine gc_E (fun _ => ?_) fun _ => ?_ | refine gc_N (fun _ => ?_) fun _ => ?_ | refine aT ?_ | refine gc_B (fun _ => ?_) fun _ => ?_) | fail)
    rw [hq]
   ·rw [o0 (p := uE k n) (decide_eq_false (fun h => h2 h.2))] at hq
    refine cD (by dsimp only [pN, lk, Nat.reduceBEq, cond_true, cond_false, Option.getD_some, Option.getD_none]; first | done | exact rfl) ?_; refine aY ?_
    unfold mK
    repeat' (first | refine aS ?_ | refine yc ?_ | (show zn; refine aA ?_) | (show gA; first | refine aH (fun _ => ?_) fun _ => ?_ | refine gc_E (fun _ => ?_) fun _ => ?_ | refine gc_N (fun _ => ?_) fun _ => ?_ | refine aT ?_ | refine gc_B (fun _ => ?_) fun _ => ?_) | fail)
    refine jQ ?_
    exact ih () hq
  ·rw [o0 (p := uE k n) (decide_eq_false (fun h => h1 h.1))] at hq
   refine cD (by dsimp only [pN, lk, Nat.reduceBEq, cond_true, cond_false, Option.getD_some, Option.getD_none]; first | done | exact rfl) ?_; refine aY ?_
   unfold mK
   repeat' (first | refine aS ?_ | refine yc ?_ | (show zn; refine aA ?_) | (show gA; first | refine aH (fun _ => ?_) fun _ => ?_ | refine gc_E (fun _ => ?_) fun _ => ?_ | refine gc_N (fun _ => ?_) fun _ => ?_ | refine aT ?_ | refine gc_B (fun _ => ?_) fun _ => ?_) | fail)
   refine jQ ?_
   exact ih () hq
 ·intro _ hq
  rw [List.drop_length] at hq
  refine cD (by dsimp only [pN, lk, Nat.reduceBEq, cond_true, cond_false, Option.getD_some, Option.getD_none]; first | done | exact rfl) ?_; refine aY ?_
  unfold mK
  repeat' (first | refine aS ?_ | refine yc ?_ | (show zn; refine aA ?_) | (show gA; first | refine aH (fun _ => ?_) fun _ => ?_ | refine gc_E (fun _ => ?_) fun _ => ?_ | refine gc_N (fun _ => ?_) fun _ => ?_ | refine aT ?_ | refine gc_B (fun _ => ?_) fun _ => ?_) | fail)
  rw [hq]; rfl
theorem bC2 {c : Config} {p : Int} (h : ¬ (0 ≤ p ∧ p < c.parts.length)) : p < 0 ∨ (c.parts.length : Int) ≤ p := by omega
def view0 : View := ⟨⟨[], [], 0, 0, 0, 0, 0, 0, 0, 0, 0, 0, 0⟩, 0, [], [], 0, 0, 0, 0, 0, 0, 0⟩
def dW (c : Config) (P : Nat → List Port) (S : Nat → List Slot) (p : Nat) : View := ⟨c, p, S p, P p, edgeC c, 2 * edgeC c, j0 c, oH c, y8 c, aQ1 c, c.ages + 1⟩
set_option maxHeartbeats 1000000 in
theorem aTe {c : Config} {P : Nat → List Port} {S : Nat → List Slot} (h : Net c P S) {s : Option Nat} {H : aC} {p : Nat} (hp : p < c.parts.length) : Call tab s rZ [c.v, .int .i64 (p : Int)] H = some (.tup [(dW c P S p).v, .bool true], H) := by
 have h1 := fun s H => aPb (s := s) (H := H) h
 have h2 := h.ends
 have h3 := h.lst
 have h4 := fun s H => aGm (s := s) (H := H) h
 unfold dW View.v Config.v at *
 ((first | refine aJ ?_ | skip); refine bX (cf := pB) rfl rfl rfl rfl ?_; unfold pB; dsimp only [aB, Nat.reduceAdd, Nat.zero_add])
 repeat' (first | refine aS ?_ | refine yc ?_ (ha := by first | exact h1 _ _ | exact h2 _ _ _ hp | exact h3 _ _ _ hp | exact h4 _ _ | assumption) | (show zn; refine aA ?_ (ha := by first | exact h1 _ _ | exact h2 _ _ _ hp | exact h3 _ _ _ hp | exact h4 _ _ | assumption)) | (show gA; first | refine aH (fun _ => ?_) fun _ => ?_ | refine gc_E (fun _ => ?_) fun _ => ?_ | refine gc_N (fun _ => ?_) fun _ => ?_ | refine aT ?_ | refine gc_B (fun _ => ?_) fun _ => ?_) | fail)
 rfl
theorem aTf {c : Config} {P : Nat → List Port} {S : Nat → List Slot} (h : Net c P S) {s : Option Nat} {H : aC} {p : Int} (hp : ¬ (0 ≤ p ∧ p < c.parts.length)) : Call tab s rZ [c.v, .int .i64 p] H = some (.tup [view0.v, .bool false], H) := by
 have h1 := fun s H => aPb (s := s) (H := H) h
 unfold view0 View.v Config.v at *
 rcases bC2 hp with h5 | h5
 all_goals (
  ((first | refine aJ ?_ | skip); refine bX (cf := pB) rfl rfl rfl rfl ?_; unfold pB; dsimp only [aB, Nat.reduceAdd, Nat.zero_add])
  repeat' (first | refine aS ?_ | refine yc ?_ (ha := by first | exact h1 _ _ | assumption) | (show zn; refine aA ?_ (ha := by first | exact h1 _ _ | assumption)) | (show gA; first | refine aH (fun _ => ?_) fun _ => ?_ | refine gc_E (fun _ => ?_) fun _ => ?_ | refine gc_N (fun _ => ?_) fun _ => ?_ | refine aT ?_ | refine gc_B (fun _ => ?_) fun _ => ?_) | fail)
  simp only [aO, List.length_nil])
end Go.Abs
