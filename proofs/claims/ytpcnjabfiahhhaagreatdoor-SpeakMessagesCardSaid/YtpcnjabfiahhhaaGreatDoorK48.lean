/- A part of the proof of RowSpeakOffers, RowSpeakMessages: lemmas alone, without conditions. -/
import Derived.Test.YtpcnjabfiahhhaaGreatDoorK41
set_option linter.all false
namespace Go.Abs
open Go.Proofs.YtpcnjabfiahhhaaGreatDoor
attribute [local irreducible] enL R RR fP fB pX fK fQ pU apply fT gQ bW bZ eJ bR iL bG bD eC cR kD dO V.rb V.rbL
theorem aEy {s : Option Nat} {H : aC} {f : FuncId} {caps : List V} {p : Port → Bool} {l : List Port} (hr : V.rbL 0 caps = false) (hrl : V.rbL H.length caps = true) (hl : l.length ≤ 140737488355328) (hp : ∀ x ∈ l, Call tab (some H.length) f ([x.v] ++ caps.map V.dis1) H = some (.bool (p x), H)) (hpu : tab.pu f = true) :
 Call tab s fL [.sl none l.length (enL l), .fn f caps] H = some (.int .i64 (o4 p l 0), H) := by
 have hb : V.rbL 0 [.sl none l.length (enL l), .fn f caps] = false := by simp [V.rbL, V.rb, hr, iU]
 have hrf : V.rb H.length (.fn f caps) = true := by simp only [V.rb, hrl]
 unfold Port.v at hp
 ((first | refine aJ ?_ | skip); refine aKo (cf := cL) rfl rfl rfl rfl hb ?_; unfold cL; dsimp only [aB, Nat.reduceAdd, Nat.zero_add])
 repeat' (first | refine aS ?_ | refine yc ?_ | (show zn; refine aA ?_) | (show gA; first | refine aH (fun _ => ?_) fun _ => ?_ | refine gc_E (fun _ => ?_) fun _ => ?_ | refine gc_N (fun _ => ?_) fun _ => ?_ | refine aT ?_ | refine gc_B (fun _ => ?_) fun _ => ?_) | fail)
 refine xU l.length (fun i (_ : Unit) => [(8, .int .i64 i)]) (fun _ _ => H) (fun i _ => o4 p l 0 = o4 p (l.drop i) i) ?_ ?_ () rfl
 ·intro i _ hi hq ih
  obtain ⟨x, hx⟩ := xT hi
  have hd := hp x (List.mem_of_getElem? hx)
  rw [A4 hx] at hq
  have hw : IntKind.i64.wrap ((i : Int) + 1) = ((i + 1 : Nat) : Int) := IntWalk.i64_in _ (by omega)
  have hil : (i : Int) < (l.length : Int) := by omega
  cases hb : p x
  ·rw [o0 hb] at hq
   rw [hb] at hd
   refine cD (by dsimp only [pN, lk, Nat.reduceBEq, cond_true, cond_false, Option.getD_some, Option.getD_none]; first | done | exact rfl) ?_; refine aY ?_
   unfold cI
   repeat' (first | refine aS ?_ | refine yc ?_ (ha := by first | exact hd | assumption) | (show zn; refine aA ?_ (ha := by first | exact hd | assumption)) | (show zv; refine fA ?_ (ha := by first | exact hd | assumption)) | (show zV; refine y_cav0 ?_ (ha := by first | exact hd | assumption)) | (show gA; first | refine aH (fun _ => ?_) fun _ => ?_ | refine gc_E (fun _ => ?_) fun _ => ?_ | refine gc_N (fun _ => ?_) fun _ => ?_ | refine aT ?_ | refine gc_B (fun _ => ?_) fun _ => ?_) | fail)
   refine jQ ?_
   exact ih () hq
  ·rw [c6 hb] at hq
   rw [hb] at hd
   refine cD (by dsimp only [pN, lk, Nat.reduceBEq, cond_true, cond_false, Option.getD_some, Option.getD_none]; first | done | exact rfl) ?_; refine aY ?_
   unfold cI
   repeat' (first | refine aS ?_ | refine yc ?_ (ha := by first | exact hd | assumption) | (show zn; refine aA ?_ (ha := by first | exact hd | assumption)) | (show zv; refine fA ?_ (ha := by first | exact hd | assumption)) | (show zV; refine y_cav0 ?_ (ha := by first | exact hd | assumption)) | (show gA; first | refine aH (fun _ => ?_) fun _ => ?_ | refine gc_E (fun _ => ?_) fun _ => ?_ | refine gc_N (fun _ => ?_) fun _ => ?_ | refine aT ?_ | refine gc_B (fun _ => ?_) fun _ => ?_) | fail)
   rw [hq]
 ·intro _ hq
  rw [List.drop_length] at hq
  refine cD (by dsimp only [pN, lk, Nat.reduceBEq, cond_true, cond_false, Option.getD_some, Option.getD_none]; first | done | exact rfl) ?_; refine aY ?_
  unfold cI
  repeat' (first | refine aS ?_ | refine yc ?_ | (show zn; refine aA ?_) | (show gA; first | refine aH (fun _ => ?_) fun _ => ?_ | refine gc_E (fun _ => ?_) fun _ => ?_ | refine gc_N (fun _ => ?_) fun _ => ?_ | refine aT ?_ | refine gc_B (fun _ => ?_) fun _ => ?_) | fail)
  rw [hq]; rfl
def wB (n : Int) (x : Port) : Bool := x.node == n
theorem aIu {s : Option Nat} {H : aC} {x : Port} {n : Int} {i : Nat} (hi : H[i]? = some [.int .i64 n]) : Call tab s qS [x.v, .ptr i 0] H = some (.bool (wB n x), H) := by
 have hb : V.rbL 0 [x.v, .ptr i 0] = false := by simp [V.rbL, V.rb]
 unfold wB
 unfold Port.v at *
 ((first | refine aJ ?_ | skip); refine aKo (cf := iT) rfl rfl rfl rfl hb ?_; unfold iT; dsimp only [aB, Nat.reduceAdd, Nat.zero_add])
 repeat' (first | refine aS ?_ | refine yc ?_ | (show zn; refine aA ?_) | (show gA; first | refine aH (fun _ => ?_) fun _ => ?_ | refine gc_E (fun _ => ?_) fun _ => ?_ | refine gc_N (fun _ => ?_) fun _ => ?_ | refine aT ?_ | refine gc_B (fun _ => ?_) fun _ => ?_) | fail)
 rfl
def kC (l : List Port) (n : Int) : Int := o4 (wB n) l 0
def port0 : Port := ⟨0, 0, 0, 0⟩
theorem aHa {l : List Port} {n : Int} (h : ¬ kC l n < 0) : ∃ (i : Nat) (x : Port), kC l n = i ∧ l[i]? = some x ∧ i < l.length ∧ l.getD (kC l n).toNat default = x := by
 obtain ⟨x, h1, _, h3, _⟩ := aE9 (p := wB n) (l := l) (n := 0) (show 0 ≤ kC l n by omega)
 rw [Nat.sub_zero] at h1
 refine ⟨(kC l n).toNat, x, by omega, h1, by unfold kC; omega, ?_⟩
 rw [List.getD_eq_getElem?_getD]
 show (l[(o4 (wB n) l 0).toNat]?).getD default = x
 rw [h1]; rfl
def eD (l : List Port) (n : Int) : V := if kC l n < 0 then .tup [port0.v, .bool false] else .tup [(l.getD (kC l n).toNat default).v, .bool true]
set_option maxHeartbeats 1000000 in
theorem aMf {s : Option Nat} {H : aC} {v : View} {n : Int} (hl : v.ports.length ≤ 1000) : Call tab s nR [v.v, .int .i64 n] H = some (eD v.ports n, H) := by
 unfold eD
 by_cases h0 : kC v.ports n < 0
 ·rw [if_pos h0]
  unfold View.v port0 Port.v
  ((first | refine aJ ?_ | skip); refine bX (cf := fC) rfl rfl rfl rfl ?_; unfold fC; dsimp only [aB, Nat.reduceAdd, Nat.zero_add])
  repeat' (first | refine aS ?_ | refine yc ?_ | (show zn; refine aA ?_) | (show gA; first | refine aH (fun _ => ?_) fun _ => ?_ | refine gc_E (fun _ => ?_) fun _ => ?_ | refine gc_N (fun _ => ?_) fun _ => ?_ | refine aT ?_ | refine gc_B (fun _ => ?_) fun _ => ?_) | fail)
  refine d8 ?_ (ha := aLb)
  refine dE ?_ (ha := aEy (p := wB n) ?h1 ?h2 (by omega) (fun x hx => ?h3) rfl)
  case h1 => simp [V.rbL, V.rb]
  case h2 => simp [V.rbL, V.rb]
  case h3 => exact aIu (n := n) (by simp)
  have h0' : o4 (wB n) v.ports 0 < 0 := h0
  repeat' (first | refine aS ?_ | refine yc ?_ | (show zn; refine aA ?_) | (show gA; first | refine aH (fun _ => ?_) fun _ => ?_ | refine gc_E (fun _ => ?_) fun _ => ?_ | refine gc_N (fun _ => ?_) fun _ => ?_ | refine aT ?_ | refine gc_B (fun _ => ?_) fun _ => ?_) | fail)
  rfl
 ·rw [if_neg h0]
  obtain ⟨i, x, h1, h2, h3, h4⟩ := aHa h0
  rw [h4]
  unfold View.v Port.v
  ((first | refine aJ ?_ | skip); refine bX (cf := fC) rfl rfl rfl rfl ?_; unfold fC; dsimp only [aB, Nat.reduceAdd, Nat.zero_add])
  repeat' (first | refine aS ?_ | refine yc ?_ | (show zn; refine aA ?_) | (show gA; first | refine aH (fun _ => ?_) fun _ => ?_ | refine gc_E (fun _ => ?_) fun _ => ?_ | refine gc_N (fun _ => ?_) fun _ => ?_ | refine aT ?_ | refine gc_B (fun _ => ?_) fun _ => ?_) | fail)
  refine d8 ?_ (ha := aLb)
  refine dE ?_ (ha := aEy (p := wB n) ?h1 ?h2 (by omega) (fun x hx => ?h3) rfl)
  case h1 => simp [V.rbL, V.rb]
  case h2 => simp [V.rbL, V.rb]
  case h3 => exact aIu (n := n) (by simp)
  rw [show o4 (wB n) v.ports 0 = (i : Int) from h1]
  repeat' (first | refine aS ?_ | refine yc ?_ | (show zn; refine aA ?_) | (show gA; first | refine aH (fun _ => ?_) fun _ => ?_ | refine gc_E (fun _ => ?_) fun _ => ?_ | refine gc_N (fun _ => ?_) fun _ => ?_ | refine aT ?_ | refine gc_B (fun _ => ?_) fun _ => ?_) | fail)
  rfl
end Go.Abs
