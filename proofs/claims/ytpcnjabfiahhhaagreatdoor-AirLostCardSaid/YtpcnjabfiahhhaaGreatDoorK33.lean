/- A part of the proof of RowAirFits, RowAirHeard, RowAirOrder, RowAirLost: lemmas alone, without conditions. -/
import Derived.Test.YtpcnjabfiahhhaaGreatDoorK32
set_option linter.all false
namespace Go.Abs
open Go.Proofs.YtpcnjabfiahhhaaGreatDoor
attribute [local irreducible] enL R RR dF cZ lV dE dG mP apply dB eI aX aZ cO aW fB aP aN cK bN gL cA V.rb V.rbL
theorem aEr {s : Option Nat} {H : aB} {f : FuncId} {caps : List V} {p : Port → Bool} {l : List Port} (hr : V.rbL 0 caps = false) (hrl : V.rbL H.length caps = true) (hl : l.length ≤ 140737488355328) (hp : ∀ x ∈ l, Call tab (some H.length) f ([x.v] ++ caps.map V.dis1) H = some (.bool (p x), H)) (hpu : tab.pu f = true) :
 Call tab s eR [.sl none l.length (enL l), .fn f caps] H = some (.int .i64 (yS p l 0), H) := by
 have hb : V.rbL 0 [.sl none l.length (enL l), .fn f caps] = false := by simp [V.rbL, V.rb, hr, fI]
 have hrf : V.rb H.length (.fn f caps) = true := by simp only [V.rb, hrl]
 unfold Port.v at hp
 ((first | refine aC ?_ | skip); refine z9 (cf := cP) rfl rfl rfl rfl hb ?_; unfold cP; dsimp only [aA, Nat.reduceAdd, Nat.zero_add])
 repeat' (first | refine aF ?_ | refine yc ?_ | refine sG (fun _ => ?_) fun _ => ?_ | refine aG ?_ | refine sH (fun _ => ?_) fun _ => ?_ | fail)
 refine oK l.length (fun i (_ : Unit) => [(8, .int .i64 i)]) (fun _ _ => H) (fun i _ => yS p l 0 = yS p (l.drop i) i) ?_ ?_ () rfl
 ·intro i _ hi hq ih
  obtain ⟨x, hx⟩ := oZ hi
  have hd := hp x (List.mem_of_getElem? hx)
  rw [oH hx] at hq
  have hw : IntKind.i64.wrap ((i : Int) + 1) = ((i + 1 : Nat) : Int) := IntWalk.i64_in _ (by omega)
  have hil : (i : Int) < (l.length : Int) := by omega
  cases hb : p x
  ·rw [wO hb] at hq
   rw [hb] at hd
   refine aJ (by dsimp only [eT, lk, Nat.reduceBEq, cond_true, cond_false, Option.getD_some, Option.getD_none]; first | done | exact rfl) ?_; refine aE ?_
   unfold bK
   repeat' (first | refine aF ?_ | refine yc ?_ (ha := by first | exact hd | assumption) | (show zv; refine kF ?_ (ha := by first | exact hd | assumption)) | (show zV; refine y_cav0 ?_ (ha := by first | exact hd | assumption)) | refine sG (fun _ => ?_) fun _ => ?_ | refine aG ?_ | refine sH (fun _ => ?_) fun _ => ?_ | fail)
   refine cV ?_
   exact ih () hq
  ·rw [rH hb] at hq
   rw [hb] at hd
   refine aJ (by dsimp only [eT, lk, Nat.reduceBEq, cond_true, cond_false, Option.getD_some, Option.getD_none]; first | done | exact rfl) ?_; refine aE ?_
   unfold bK
   repeat' (first | refine aF ?_ | refine yc ?_ (ha := by first | exact hd | assumption) | (show zv; refine kF ?_ (ha := by first | exact hd | assumption)) | (show zV; refine y_cav0 ?_ (ha := by first | exact hd | assumption)) | refine sG (fun _ => ?_) fun _ => ?_ | refine aG ?_ | refine sH (fun _ => ?_) fun _ => ?_ | fail)
   rw [hq]
 ·intro _ hq
  rw [List.drop_length] at hq
  refine aJ (by dsimp only [eT, lk, Nat.reduceBEq, cond_true, cond_false, Option.getD_some, Option.getD_none]; first | done | exact rfl) ?_; refine aE ?_
  unfold bK
  repeat' (first | refine aF ?_ | refine yc ?_ | refine sG (fun _ => ?_) fun _ => ?_ | refine aG ?_ | refine sH (fun _ => ?_) fun _ => ?_ | fail)
  rw [hq]; rfl
def iF (n : Int) (x : Port) : Bool := x.node == n
theorem aHw {s : Option Nat} {H : aB} {x : Port} {n : Int} {i : Nat} (hi : H[i]? = some [.int .i64 n]) : Call tab s rG [x.v, .ptr i 0] H = some (.bool (iF n x), H) := by
 have hb : V.rbL 0 [x.v, .ptr i 0] = false := by simp [V.rbL, V.rb]
 unfold iF
 unfold Port.v at *
 ((first | refine aC ?_ | skip); refine z9 (cf := mA) rfl rfl rfl rfl hb ?_; unfold mA; dsimp only [aA, Nat.reduceAdd, Nat.zero_add])
 repeat' (first | refine aF ?_ | refine yc ?_ | refine sG (fun _ => ?_) fun _ => ?_ | refine aG ?_ | refine sH (fun _ => ?_) fun _ => ?_ | fail)
 rfl
def gU (l : List Port) (n : Int) : Int := yS (iF n) l 0
def port0 : Port := ⟨0, 0, 0, 0⟩
theorem aGp {l : List Port} {n : Int} (h : ¬ gU l n < 0) : ∃ (i : Nat) (x : Port), gU l n = i ∧ l[i]? = some x ∧ i < l.length ∧ l.getD (gU l n).toNat default = x := by
 obtain ⟨x, h1, _, h3, _⟩ := aD2 (p := iF n) (l := l) (n := 0) (show 0 ≤ gU l n by omega)
 rw [Nat.sub_zero] at h1
 refine ⟨(gU l n).toNat, x, by omega, h1, by unfold gU; omega, ?_⟩
 rw [List.getD_eq_getElem?_getD]
 show (l[(yS (iF n) l 0).toNat]?).getD default = x
 rw [h1]; rfl
def qB (l : List Port) (n : Int) : V := if gU l n < 0 then .tup [port0.v, .bool false] else .tup [(l.getD (gU l n).toNat default).v, .bool true]
set_option maxHeartbeats 1000000 in
theorem aT5 {s : Option Nat} {H : aB} {v : View} {n : Int} (hl : v.ports.length ≤ 1000) : Call tab s tW [v.v, .int .i64 n] H = some (qB v.ports n, H) := by
 unfold qB
 by_cases h0 : gU v.ports n < 0
 ·rw [if_pos h0]
  unfold View.v port0 Port.v
  ((first | refine aC ?_ | skip); refine bE (cf := fX) rfl rfl rfl rfl ?_; unfold fX; dsimp only [aA, Nat.reduceAdd, Nat.zero_add])
  repeat' (first | refine aF ?_ | refine yc ?_ | refine sG (fun _ => ?_) fun _ => ?_ | refine aG ?_ | refine sH (fun _ => ?_) fun _ => ?_ | fail)
  refine tF ?_ (ha := wK)
  refine cI ?_ (ha := aEr (p := iF n) ?h1 ?h2 (by omega) (fun x hx => ?h3) rfl)
  case h1 => simp [V.rbL, V.rb]
  case h2 => simp [V.rbL, V.rb]
  case h3 => exact aHw (n := n) (by simp)
  have h0' : yS (iF n) v.ports 0 < 0 := h0
  repeat' (first | refine aF ?_ | refine yc ?_ | refine sG (fun _ => ?_) fun _ => ?_ | refine aG ?_ | refine sH (fun _ => ?_) fun _ => ?_ | fail)
  rfl
 ·rw [if_neg h0]
  obtain ⟨i, x, h1, h2, h3, h4⟩ := aGp h0
  rw [h4]
  unfold View.v Port.v
  ((first | refine aC ?_ | skip); refine bE (cf := fX) rfl rfl rfl rfl ?_; unfold fX; dsimp only [aA, Nat.reduceAdd, Nat.zero_add])
  repeat' (first | refine aF ?_ | refine yc ?_ | refine sG (fun _ => ?_) fun _ => ?_ | refine aG ?_ | refine sH (fun _ => ?_) fun _ => ?_ | fail)
  refine tF ?_ (ha := wK)
  refine cI ?_ (ha := aEr (p := iF n) ?h1 ?h2 (by omega) (fun x hx => ?h3) rfl)
  case h1 => simp [V.rbL, V.rb]
  case h2 => simp [V.rbL, V.rb]
  case h3 => exact aHw (n := n) (by simp)
  rw [show yS (iF n) v.ports 0 = (i : Int) from h1]
  repeat' (first | refine aF ?_ | refine yc ?_ | refine sG (fun _ => ?_) fun _ => ?_ | refine aG ?_ | refine sH (fun _ => ?_) fun _ => ?_ | fail)
  rfl
def G0 (l : List Port) (n : Int) : Int := (l.getD (gU l n).toNat default).link
theorem aEs {l : List Port} {n : Int} (h : gU l n < 0) : qB l n = .tup [port0.v, .bool false] := by unfold qB; rw [if_pos h]
theorem aEt {l : List Port} {n : Int} (h : ¬ gU l n < 0) : ∃ y : Port, qB l n = .tup [y.v, .bool true] ∧ G0 l n = y.link := by
 unfold qB; rw [if_neg h]; exact ⟨_, rfl, rfl⟩
def SlotR (P : Nat → List Port) (S : Nat → List Slot) : Prop := ∀ p, ∀ s ∈ S p, 2 ≤ s.kind ∧ s.kind ≤ 5 ∧ (3 ≤ s.kind → ¬ gU (P p) s.node < 0)
end Go.Abs
