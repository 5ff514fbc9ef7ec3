/- A part of the proof of RowSpeakSync: lemmas alone, without conditions. -/
import Derived.Test.YtpcnjabfiahhhaaGreatDoorJ33
set_option linter.all false
namespace Go.Abs
open Go.Proofs.YtpcnjabfiahhhaaGreatDoor
theorem aU6 {s : Option Nat} {H : aB} {f : FuncId} {i o j p : Nat} : apply s (.mkf f) [.ptr i o, .ptr j p] H = some (.fn f [.ptr i o, .ptr j p], H) := rfl
attribute [local irreducible] enL R RR gT fU rC gG gU qS apply fW gZ bQ cC fB bN iN bK bG eS cV lA dU V.rb V.rbL
theorem aO1 {s : Option Nat} {H : aB} {f : FuncId} {caps : List V} {p : Slot → Bool} {l : List Slot} (hr : V.rbL 0 caps = false) (hd2 : caps.map V.dis1 = caps) (hrl : V.rbL H.length caps = true) (hl : l.length ≤ 140737488355328) (hp : ∀ x ∈ l, Call tab (some H.length) f ([x.v] ++ caps.map V.dis1) H = some (.bool (p x), H)) (hpu : tab.pu f = true) :
 Call tab s eW [.sl none l.length (enL l), .fn f caps] H = some (.int .i64 (J1 p l 0), H) := by
 have hb : V.rbL 0 [.sl none l.length (enL l), .fn f caps] = false := by simp [V.rbL, V.rb, hr, kO]
 have hrf : V.rb H.length (.fn f caps) = true := by simp only [V.rb, hrl]
 unfold Slot.v at hp
 ((first | refine aJ ?_ | skip); refine aP7 (cf := cD) rfl rfl rfl rfl hb ?_; unfold cD; dsimp only [aC, Nat.reduceAdd, Nat.zero_add])
 repeat' (first | refine aS ?_ | refine yc ?_ | (show zn; refine aA ?_) | (show gA; first | refine aH (fun _ => ?_) fun _ => ?_ | refine gc_E (fun _ => ?_) fun _ => ?_ | refine gc_N (fun _ => ?_) fun _ => ?_ | refine aT ?_ | refine gc_B (fun _ => ?_) fun _ => ?_) | fail)
 refine yP l.length (fun i (_ : Unit) => [(8, .int .i64 i)]) (fun _ _ => H) (fun i _ => J1 p l 0 = J1 p (l.drop i) i) ?_ ?_ () rfl
 ·intro i _ hi hq ih
  obtain ⟨x, hx⟩ := yO hi
  have hd := hp x (List.mem_of_getElem? hx)
  rw [J2 hx] at hq
  have hw : IntKind.i64.wrap ((i : Int) + 1) = ((i + 1 : Nat) : Int) := IntWalk.i64_in _ (by omega)
  have hil : (i : Int) < (l.length : Int) := by omega
  cases hb : p x
  ·rw [s7 hb] at hq
   rw [hb] at hd
   refine cG (by dsimp only [qG, lk, Nat.reduceBEq, cond_true, cond_false, Option.getD_some, Option.getD_none]; first | done | exact rfl) ?_; refine bB ?_
   unfold bZ
   repeat' (first | refine aS ?_ | refine yc ?_ (ha := by first | exact hd | assumption) | (show zn; refine aA ?_ (ha := by first | exact hd | assumption)) | (show zv; refine eU ?_ (ha := by first | exact hd | assumption)) | (show zV; refine y_cav0 ?_ (ha := by first | exact hd | assumption)) | (show gA; first | refine aH (fun _ => ?_) fun _ => ?_ | refine gc_E (fun _ => ?_) fun _ => ?_ | refine gc_N (fun _ => ?_) fun _ => ?_ | refine aT ?_ | refine gc_B (fun _ => ?_) fun _ => ?_) | fail)
   refine jW ?_
   exact ih () hq
  ·rw [j9 hb] at hq
   rw [hb] at hd
   refine cG (by dsimp only [qG, lk, Nat.reduceBEq, cond_true, cond_false, Option.getD_some, Option.getD_none]; first | done | exact rfl) ?_; refine bB ?_
   unfold bZ
   repeat' (first | refine aS ?_ | refine yc ?_ (ha := by first | exact hd | assumption) | (show zn; refine aA ?_ (ha := by first | exact hd | assumption)) | (show zv; refine eU ?_ (ha := by first | exact hd | assumption)) | (show zV; refine y_cav0 ?_ (ha := by first | exact hd | assumption)) | (show gA; first | refine aH (fun _ => ?_) fun _ => ?_ | refine gc_E (fun _ => ?_) fun _ => ?_ | refine gc_N (fun _ => ?_) fun _ => ?_ | refine aT ?_ | refine gc_B (fun _ => ?_) fun _ => ?_) | fail)
   rw [hq]
 ·intro _ hq
  rw [List.drop_length] at hq
  refine cG (by dsimp only [qG, lk, Nat.reduceBEq, cond_true, cond_false, Option.getD_some, Option.getD_none]; first | done | exact rfl) ?_; refine bB ?_
  unfold bZ
  repeat' (first | refine aS ?_ | refine yc ?_ | (show zn; refine aA ?_) | (show gA; first | refine aH (fun _ => ?_) fun _ => ?_ | refine gc_E (fun _ => ?_) fun _ => ?_ | refine gc_N (fun _ => ?_) fun _ => ?_ | refine aT ?_ | refine gc_B (fun _ => ?_) fun _ => ?_) | fail)
  rw [hq]; rfl
def tL (k n : Int) (x : Slot) : Bool := decide (x.kind = k ∧ x.node = n)
theorem aQs {s : Option Nat} {H : aB} {x : Slot} {k n : Int} {i j : Nat} (hi : H[i]? = some [.int .i64 k]) (hj : H[j]? = some [.int .i64 n]) : Call tab s pL [x.v, .ptr i 0, .ptr j 0] H = some (.bool (tL k n x), H) := by
 have hb : V.rbL 0 [x.v, .ptr i 0, .ptr j 0] = false := by simp [V.rbL, V.rb]
 unfold tL
 unfold Slot.v at *
 ((first | refine aJ ?_ | skip); refine aP7 (cf := hR) rfl rfl rfl rfl hb ?_; unfold hR; dsimp only [aC, Nat.reduceAdd, Nat.zero_add])
 by_cases h1 : x.kind = k
 ·by_cases h2 : x.node = n
  ·rw [decide_eq_true ⟨h1, h2⟩]
   repeat' (first | refine aS ?_ | refine yc ?_ | (show zn; refine aA ?_) | (show gA; first | refine aH (fun _ => ?_) fun _ => ?_ | refine gc_E (fun _ => ?_) fun _ => ?_ | refine gc_N (fun _ => ?_) fun _ => ?_ | refine aT ?_ | refine gc_B (fun _ => ?_) fun _ => ?_) | fail)
   all_goals first | rfl | (rw [aW0 h2])
  ·rw [decide_eq_false (fun h => h2 h.2)]
   repeat' (first | refine aS ?_ | refine yc ?_ | (show zn; refine aA ?_) | (show gA; first | refine aH (fun _ => ?_) fun _ => ?_ | refine gc_E (fun _ => ?_) fun _ => ?_ | refine gc_N (fun _ => ?_) fun _ => ?_ | refine aT ?_ | refine gc_B (fun _ => ?_) fun _ => ?_) | fail)
   all_goals first | rfl | (rw [aW1 h2])
 ·rw [decide_eq_false (fun h => h1 h.1)]
  repeat' (first | refine aS ?_ | refine yc ?_ | (show zn; refine aA ?_) | (show gA; first | refine aH (fun _ => ?_) fun _ => ?_ | refine gc_E (fun _ => ?_) fun _ => ?_ | refine gc_N (fun _ => ?_) fun _ => ?_ | refine aT ?_ | refine gc_B (fun _ => ?_) fun _ => ?_) | fail)
  all_goals rfl
def iO (l : List Slot) (k n : Int) : Int := J1 (tL k n) l 0
theorem aU7 {s : Option Nat} {H : aB} {v : View} {k n : Int} (hl : v.slots.length ≤ 1000) : Call tab s rP [v.v, .int .i64 k, .int .i64 n] H = some (.int .i64 (iO v.slots k n), H) := by
 unfold View.v iO
 ((first | refine aJ ?_ | skip); refine cB (cf := jP) rfl rfl rfl rfl ?_; unfold jP; dsimp only [aC, Nat.reduceAdd, Nat.zero_add])
 repeat' (first | refine aS ?_ | refine yc ?_ | (show zn; refine aA ?_) | (show gA; first | refine aH (fun _ => ?_) fun _ => ?_ | refine gc_E (fun _ => ?_) fun _ => ?_ | refine gc_N (fun _ => ?_) fun _ => ?_ | refine aT ?_ | refine gc_B (fun _ => ?_) fun _ => ?_) | fail)
 refine f9 ?_ (ha := aU6)
 refine cY ?_ (ha := aO1 (p := tL k n) ?h1 rfl ?h2 (by omega) (fun x hx => ?h3) rfl)
 case h1 => simp [V.rbL, V.rb]
 case h2 => simp [V.rbL, V.rb]
 case h3 => exact aQs (k := k) (n := n) (by simp) (by simp)
 repeat' (first | refine aS ?_ | refine yc ?_ | (show zn; refine aA ?_) | (show gA; first | refine aH (fun _ => ?_) fun _ => ?_ | refine gc_E (fun _ => ?_) fun _ => ?_ | refine gc_N (fun _ => ?_) fun _ => ?_ | refine aT ?_ | refine gc_B (fun _ => ?_) fun _ => ?_) | fail)
 rfl
theorem aQt {c : Config} {P : Nat → List Port} {S : Nat → List Slot} (h : NetR c P S) {s : Option Nat} {H : aB} {p : Nat} {k n : Int} (hp : p < c.parts.length) (hl : (S p).length ≤ 1000) : Call tab s wV [c.v, .int .i64 (p : Int), .int .i64 k, .int .i64 n] H = some (.int .i64 (iO (S p) k n), H) := by
 have h1 := h.rslt
 unfold Config.v iO at *
 ((first | refine aJ ?_ | skip); refine cB (cf := sT) rfl rfl rfl rfl ?_; unfold sT; dsimp only [aC, Nat.reduceAdd, Nat.zero_add])
 repeat' (first | refine aS ?_ | refine yc ?_ (ha := by first | exact h1 _ _ _ hp | assumption) | (show zn; refine aA ?_ (ha := by first | exact h1 _ _ _ hp | assumption)) | (show gA; first | refine aH (fun _ => ?_) fun _ => ?_ | refine gc_E (fun _ => ?_) fun _ => ?_ | refine gc_N (fun _ => ?_) fun _ => ?_ | refine aT ?_ | refine gc_B (fun _ => ?_) fun _ => ?_) | fail)
 generalize S p = l at *
 refine yP l.length (fun i (_ : Unit) => [(10, .int .i64 i)]) (fun _ _ => _) (fun i _ => J1 (tL k n) l 0 = J1 (tL k n) (l.drop i) i) ?_ ?_ () rfl
 ·intro i _ hi hq ih
  obtain ⟨x, hx⟩ := yO hi
  rw [J2 hx] at hq
  have hw : IntKind.i64.wrap ((i : Int) + 1) = ((i + 1 : Nat) : Int) := IntWalk.i64_in _ (by omega)
  have hil : (i : Int) < (l.length : Int) := by omega
  by_cases h1 : x.kind = k
  ·by_cases h2 : x.node = n
   ·rw [j9 (p := tL k n) (decide_eq_true ⟨h1, h2⟩)] at hq
    refine cG (by dsimp only [qG, lk, Nat.reduceBEq, cond_true, cond_false, Option.getD_some, Option.getD_none]; first | done | exact rfl) ?_; refine bB ?_
    unfold lP
    repeat' (first | refine aS ?_ | refine yc ?_ | (show zn; refine aA ?_) | (show gA; first | refine aH (fun _ => ?_) fun _ => ?_ | refine gc_E (fun _ => ?_) fun _ => ?_ | refine gc_N (fun _ => ?_) fun _ => ?_ | refine aT ?_ | refine gc_B (fun _ => ?_) fun _ => ?_) | fail)
    rw [hq]
   ·rw [s7 (p := tL k n) (decide_eq_false (fun h => h2 h.2))] at hq
    refine cG (by dsimp only [qG, lk, Nat.reduceBEq, cond_true, cond_false, Option.getD_some, Option.getD_none]; first | done | exact rfl) ?_; refine bB ?_
    unfold lP
    repeat' (first | refine aS ?_ | refine yc ?_ | (show zn; refine aA ?_) | (show gA; first | refine aH (fun _ => ?_) fun _ => ?_ | refine gc_E (fun _ => ?_) fun _ => ?_ | refine gc_N (fun _ => ?_) fun _ => ?_ | refine aT ?_ | refine gc_B (fun _ => ?_) fun _ => ?_) | fail)
    refine jW ?_
    exact ih () hq
  ·rw [s7 (p := tL k n) (decide_eq_false (fun h => h1 h.1))] at hq
   refine cG (by dsimp only [qG, lk, Nat.reduceBEq, cond_true, cond_false, Option.getD_some, Option.getD_none]; first | done | exact rfl) ?_; refine bB ?_
   unfold lP
   repeat' (first | refine aS ?_ | refine yc ?_ | (show zn; refine aA ?_) | (show gA; first | refine aH (fun _ => ?_) fun _ => ?_ | refine gc_E (fun _ => ?_) fun _ => ?_ | refine gc_N (fun _ => ?_) fun _ => ?_ | refine aT ?_ | refine gc_B (fun _ => ?_) fun _ => ?_) | fail)
   refine jW ?_
   exact ih () hq
 ·intro _ hq
  rw [List.drop_length] at hq
  refine cG (by dsimp only [qG, lk, Nat.reduceBEq, cond_true, cond_false, Option.getD_some, Option.getD_none]; first | done | exact rfl) ?_; refine bB ?_
  unfold lP
  repeat' (first | refine aS ?_ | refine yc ?_ | (show zn; refine aA ?_) | (show gA; first | refine aH (fun _ => ?_) fun _ => ?_ | refine gc_E (fun _ => ?_) fun _ => ?_ | refine gc_N (fun _ => ?_) fun _ => ?_ | refine aT ?_ | refine gc_B (fun _ => ?_) fun _ => ?_) | fail)
  rw [hq]; rfl
theorem bAa {c : Config} {p : Int} (h : ¬ (0 ≤ p ∧ p < c.parts.length)) : p < 0 ∨ (c.parts.length : Int) ≤ p := by omega
def view0 : View := ⟨⟨[], [], 0, 0, 0, 0, 0, 0, 0, 0, 0, 0, 0⟩, 0, [], [], 0, 0, 0, 0, 0, 0, 0⟩
def sN (c : Config) (P : Nat → List Port) (S : Nat → List Slot) (p : Nat) : View := ⟨c, p, S p, P p, edgeC c, 2 * edgeC c, zH c, nK c, o6 c, aOm c, c.ages + 1⟩
set_option maxHeartbeats 1000000 in
theorem aYl {c : Config} {P : Nat → List Port} {S : Nat → List Slot} (h : Net c P S) {s : Option Nat} {H : aB} {p : Nat} (hp : p < c.parts.length) : Call tab s zQ [c.v, .int .i64 (p : Int)] H = some (.tup [(sN c P S p).v, .bool true], H) := by
 have h1 := fun s H => aMl (s := s) (H := H) h
 have h2 := h.ends
 have h3 := h.lst
 have h4 := fun s H => aF9 (s := s) (H := H) h
 unfold sN View.v Config.v at *
 ((first | refine aJ ?_ | skip); refine cB (cf := oA) rfl rfl rfl rfl ?_; unfold oA; dsimp only [aC, Nat.reduceAdd, Nat.zero_add])
 repeat' (first | refine aS ?_ | refine yc ?_ (ha := by first | exact h1 _ _ | exact h2 _ _ _ hp | exact h3 _ _ _ hp | exact h4 _ _ | assumption) | (show zn; refine aA ?_ (ha := by first | exact h1 _ _ | exact h2 _ _ _ hp | exact h3 _ _ _ hp | exact h4 _ _ | assumption)) | (show gA; first | refine aH (fun _ => ?_) fun _ => ?_ | refine gc_E (fun _ => ?_) fun _ => ?_ | refine gc_N (fun _ => ?_) fun _ => ?_ | refine aT ?_ | refine gc_B (fun _ => ?_) fun _ => ?_) | fail)
 rfl
theorem aYm {c : Config} {P : Nat → List Port} {S : Nat → List Slot} (h : Net c P S) {s : Option Nat} {H : aB} {p : Int} (hp : ¬ (0 ≤ p ∧ p < c.parts.length)) : Call tab s zQ [c.v, .int .i64 p] H = some (.tup [view0.v, .bool false], H) := by
 have h1 := fun s H => aMl (s := s) (H := H) h
 unfold view0 View.v Config.v at *
 rcases bAa hp with h5 | h5
 all_goals (
  ((first | refine aJ ?_ | skip); refine cB (cf := oA) rfl rfl rfl rfl ?_; unfold oA; dsimp only [aC, Nat.reduceAdd, Nat.zero_add])
  repeat' (first | refine aS ?_ | refine yc ?_ (ha := by first | exact h1 _ _ | assumption) | (show zn; refine aA ?_ (ha := by first | exact h1 _ _ | assumption)) | (show gA; first | refine aH (fun _ => ?_) fun _ => ?_ | refine gc_E (fun _ => ?_) fun _ => ?_ | refine gc_N (fun _ => ?_) fun _ => ?_ | refine aT ?_ | refine gc_B (fun _ => ?_) fun _ => ?_) | fail)
  simp only [bJ, List.length_nil])
end Go.Abs
