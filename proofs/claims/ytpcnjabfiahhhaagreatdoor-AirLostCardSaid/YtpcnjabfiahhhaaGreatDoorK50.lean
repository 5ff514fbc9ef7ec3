/- A part of the proof of RowAirFits, RowAirHeard, RowAirOrder, RowAirLost: lemmas alone, without conditions. -/
import Derived.Test.YtpcnjabfiahhhaaGreatDoorK48
import Derived.Test.YtpcnjabfiahhhaaGreatDoorK49
import Derived.Test.YtpcnjabfiahhhaaGreatDoorK36
import Derived.Test.YtpcnjabfiahhhaaGreatDoorK21
set_option linter.all false
namespace Go.Abs
open Go.Proofs.YtpcnjabfiahhhaaGreatDoor
attribute [local irreducible] enL R RR dF cZ lV dE dG mP apply dB eI aX aZ cO aW fB aP aN cK bN gL cA V.rb V.rbL
theorem l0 {s : Option Nat} {H : aB} {f : FuncId} {caps : List V} {p : Say → Bool} {l : List Say} (hr : V.rbL 0 caps = false) (hrl : V.rbL H.length caps = true) (hl : l.length ≤ 140737488355328) (hp : ∀ x ∈ l, Call tab (some H.length) f ([x.v] ++ caps.map V.dis1) H = some (.bool (p x), H)) (hpu : tab.pu f = true) :
 Call tab s fL [.sl none l.length (enL l), .fn f caps] H = some (.int .i64 (yS p l 0), H) := by
 have hb : V.rbL 0 [.sl none l.length (enL l), .fn f caps] = false := by simp [V.rbL, V.rb, hr, fI]
 have hrf : V.rb H.length (.fn f caps) = true := by simp only [V.rb, hrl]
 unfold Say.v at hp
 ((first | refine aC ?_ | skip); refine z9 (cf := dC) rfl rfl rfl rfl hb ?_; unfold dC; dsimp only [aA, Nat.reduceAdd, Nat.zero_add])
 repeat' (first | refine aF ?_ | refine yc ?_ | refine sG (fun _ => ?_) fun _ => ?_ | refine aG ?_ | refine sH (fun _ => ?_) fun _ => ?_ | fail)
 refine oK l.length (fun i (_ : Unit) => [(8, .int .i64 i)]) (fun _ _ => H) (fun i _ => yS p l 0 = yS p (l.drop i) i) ?_ ?_ () rfl
 ·intro i _ hi hq ih
  obtain ⟨x, hx⟩ := oZ hi
  have hd := hp x (List.mem_of_getElem? hx)
  rw [oH hx] at hq
  have hw : IntKind.i64.wrap ((i : Int) + 1) = ((i + 1 : Nat) : Int) := IntWalk.i64_in _ (by omega)
  have hil : (i : Int) < (l.length : Int) := by omega
  cases hb : p x
  ·rw [wO hb] at hq
   rw [hb] at hd
   refine aJ (by dsimp only [eT, lk, Nat.reduceBEq, cond_true, cond_false, Option.getD_some, Option.getD_none]; first | done | exact rfl) ?_; refine aE ?_
   unfold bO
   repeat' (first | refine aF ?_ | refine yc ?_ (ha := by first | exact hd | assumption) | (show zv; refine kF ?_ (ha := by first | exact hd | assumption)) | (show zV; refine y_cav0 ?_ (ha := by first | exact hd | assumption)) | refine sG (fun _ => ?_) fun _ => ?_ | refine aG ?_ | refine sH (fun _ => ?_) fun _ => ?_ | fail)
   refine cV ?_
   exact ih () hq
  ·rw [rH hb] at hq
   rw [hb] at hd
   refine aJ (by dsimp only [eT, lk, Nat.reduceBEq, cond_true, cond_false, Option.getD_some, Option.getD_none]; first | done | exact rfl) ?_; refine aE ?_
   unfold bO
   repeat' (first | refine aF ?_ | refine yc ?_ (ha := by first | exact hd | assumption) | (show zv; refine kF ?_ (ha := by first | exact hd | assumption)) | (show zV; refine y_cav0 ?_ (ha := by first | exact hd | assumption)) | refine sG (fun _ => ?_) fun _ => ?_ | refine aG ?_ | refine sH (fun _ => ?_) fun _ => ?_ | fail)
   rw [hq]
 ·intro _ hq
  rw [List.drop_length] at hq
  refine aJ (by dsimp only [eT, lk, Nat.reduceBEq, cond_true, cond_false, Option.getD_some, Option.getD_none]; first | done | exact rfl) ?_; refine aE ?_
  unfold bO
  repeat' (first | refine aF ?_ | refine yc ?_ | refine sG (fun _ => ?_) fun _ => ?_ | refine aG ?_ | refine sH (fun _ => ?_) fun _ => ?_ | fail)
  rw [hq]; rfl
abbrev tI (n : Int) (x : Say) : Bool := x.slot == n
theorem l5 {s : Option Nat} {H : aB} {x : Say} {n : Int} {i : Nat} (hi : H[i]? = some [.int .i64 n]) : Call tab s D4 [x.v, .ptr i 0] H = some (.bool (tI n x), H) := by
 have hb : V.rbL 0 [x.v, .ptr i 0] = false := by simp [V.rbL, V.rb]
 unfold tI
 unfold Say.v at *
 ((first | refine aC ?_ | skip); refine z9 (cf := wW) rfl rfl rfl rfl hb ?_; unfold wW; dsimp only [aA, Nat.reduceAdd, Nat.zero_add])
 repeat' (first | refine aF ?_ | refine yc ?_ | refine sG (fun _ => ?_) fun _ => ?_ | refine aG ?_ | refine sH (fun _ => ?_) fun _ => ?_ | fail)
 rfl
theorem aLj {α : Type} {l : List α} {x : α} {j : Nat} (h : l[j]? = some x) : j < l.length ∧ x ∈ l := ⟨(List.getElem?_eq_some_iff.1 h).1, List.mem_of_getElem? h⟩
def cB (c : Config) (l : List Port) (m : List Slot) (p : Int) (g : Guard) (ppm : Int) (says : List Say) (lost : List Int) : List Heard × Nat := dJ (lX c l m p g ppm says lost) m.length
def pF (q : List Heard × Nat) : V := .tup [.sl (some 16) q.1.length (enL q.1), .int .i64 (q.2 : Int)]
set_option maxHeartbeats 8000000 in
theorem aT4 {c : Config} {P : Nat → List Port} {S : Nat → List Slot} (hR : SlotR P S) (hw : 0 ≤ c.window ∧ c.window ≤ 1000000000000) {p : Nat} (hS : (S p).length ≤ 1000) (hP : (P p).length ≤ 1000) {s : Option Nat} {H : aB} {g : Guard} {ppm : Int} {says : List Say} {lost : List Int} (hsl : says.length ≤ 1000000) (hby : ∀ y ∈ says, y.bytes.length ≤ 1000000) (hlo : lost.length ≤ 1000000) :
 Call tab s Z9 [(jY c P S p).v, g.v, .int .i64 ppm, .sl none says.length (enL says), .sl none lost.length (enL lost)] H = some (pF (cB c (P p) (S p) p g ppm says lost), H) := by
 unfold pF cB
 generalize hh : lX c (P p) (S p) p g ppm says lost = h
 have hfit : ∀ (i : Nat) (f : Frame) s H, f.ages.length ≤ 6 → Call tab s m7 [(jY c P S p).v, .int .i64 (i : Int), f.v] H = some (.bool (F6 c (P p) (S p) p i f), H) := fun i f s H hf => aRb hR hS hP (by omega)
 unfold View.v jY Guard.v at *
 ((first | refine aC ?_ | skip); refine bE (cf := w9) rfl rfl rfl rfl ?_; unfold w9; dsimp only [aA, Nat.reduceAdd, Nat.zero_add])
 repeat' (first | refine aF ?_ | refine yc ?_ | refine sG (fun _ => ?_) fun _ => ?_ | refine aG ?_ | refine sH (fun _ => ?_) fun _ => ?_ | fail)
 refine oK (S p).length (fun i (t : List Heard × Nat) => [(12, .sl (some 16) t.1.length (enL t.1)), (13, .int .i64 (t.2 : Int)), (22, .int .i64 i)]) (fun _ _ => _) (fun i t => t = dJ h i) ?_ ?_ ([], 0) rfl
 ·intro i t hi ht ih
  obtain ⟨x, hx⟩ := oZ hi
  have hil : (i : Int) < ((S p).length : Int) := by omega
  have hwi : IntKind.i64.wrap ((i : Int) + 1) = ((i + 1 : Nat) : Int) := IntWalk.i64_in _ (by omega)
  have hln := l6 (h := h) i
  rw [← ht] at hln
  have hwb : IntKind.i64.wrap ((t.2 : Int) + 1) = ((t.2 + 1 : Nat) : Int) := IntWalk.i64_in _ (by omega)
  have hhi : h i = lX c (P p) (S p) p g ppm says lost i := by rw [← hh]
  have hgd : (S p).getD i default = x := by rw [List.getD_eq_getElem?_getD, hx]; rfl
  unfold lX at hhi
  rw [hgd] at hhi
  have hco := fun s H => aH5 (s := s) (H := H) (l := lost) (x := (i : Int)) (by omega)
  rcases i6 (p := tI (i : Int)) says 0 with ⟨e1, e2⟩ | ⟨j, y, hy, e1, e2⟩
  ·rw [show says.find? (fun y => y.slot == (i : Int)) = none from e1] at hhi
   refine aJ (by dsimp only [eT, lk, Nat.reduceBEq, cond_true, cond_false, Option.getD_some, Option.getD_none]; first | done | exact rfl) ?_; refine aE ?_
   unfold fW
   repeat' (first | refine aF ?_ | refine yc ?_ | refine sG (fun _ => ?_) fun _ => ?_ | refine aG ?_ | refine sH (fun _ => ?_) fun _ => ?_ | fail)
   refine tF ?_ (ha := wK)
   refine cI ?_ (ha := l0 (p := tI (i : Int)) ?h1 ?h2 (by omega) (fun x hx => ?h3) rfl)
   case h1 => simp [V.rbL, V.rb]
   case h2 => simp [V.rbL, V.rb]
   case h3 => exact l5 (by simp)
   rw [e2]
   repeat' (first | refine aF ?_ | refine yc ?_ | refine sG (fun _ => ?_) fun _ => ?_ | refine aG ?_ | refine sH (fun _ => ?_) fun _ => ?_ | fail)
   refine wG ?_
   exact ih t (by rw [dJ, hhi, ← ht]; rfl)
  ·rw [show says.find? (fun y => y.slot == (i : Int)) = some y from e1] at hhi
   obtain ⟨hjl, hym⟩ := aLj hy
   rw [Nat.zero_add] at e2
   have hj : (j : Int) < (says.length : Int) := by omega
   have hj0 : ¬ (j : Int) < 0 := by omega
   simp only at hhi
   cases hb : inB lost i
   rotate_left
   ·rw [if_pos hb] at hhi
    rw [hb] at hco
    refine aJ (by dsimp only [eT, lk, Nat.reduceBEq, cond_true, cond_false, Option.getD_some, Option.getD_none]; first | done | exact rfl) ?_; refine aE ?_
    unfold fW
    repeat' (first | refine aF ?_ | refine yc ?_ | refine sG (fun _ => ?_) fun _ => ?_ | refine aG ?_ | refine sH (fun _ => ?_) fun _ => ?_ | fail)
    refine tF ?_ (ha := wK)
    refine cI ?_ (ha := l0 (p := tI (i : Int)) ?h1 ?h2 (by omega) (fun x hx => ?h3) rfl)
    case h1 => simp [V.rbL, V.rb]
    case h2 => simp [V.rbL, V.rb]
    case h3 => exact l5 (by simp)
    rw [e2]
    repeat' (first | refine aF ?_ | refine yc ?_ (ha := by first | exact hco _ _ | assumption) | refine sG (fun _ => ?_) fun _ => ?_ | refine aG ?_ | refine sH (fun _ => ?_) fun _ => ?_ | fail)
    refine wG ?_
    exact ih t (by rw [dJ, hhi, ← ht]; rfl)
   rw [if_neg (by simp [hb])] at hhi
   rw [hb] at hco
   have hpa := fun s H => aUa (s := s) (H := H) (g := g) (a := x.off) (ppm := ppm) (w := c.window) (arr := y.tim) hw
   unfold Guard.v at hpa
   cases hp : X9 g x.off ppm c.window y.tim
   ·rw [if_neg (by simp [hp])] at hhi
    rw [hp] at hpa
    refine aJ (by dsimp only [eT, lk, Nat.reduceBEq, cond_true, cond_false, Option.getD_some, Option.getD_none]; first | done | exact rfl) ?_; refine aE ?_
    unfold fW
    repeat' (first | refine aF ?_ | refine yc ?_ | refine sG (fun _ => ?_) fun _ => ?_ | refine aG ?_ | refine sH (fun _ => ?_) fun _ => ?_ | fail)
    refine tF ?_ (ha := wK)
    refine cI ?_ (ha := l0 (p := tI (i : Int)) ?h1 ?h2 (by omega) (fun x hx => ?h3) rfl)
    case h1 => simp [V.rbL, V.rb]
    case h2 => simp [V.rbL, V.rb]
    case h3 => exact l5 (by simp)
    rw [e2]
    repeat' (first | refine aF ?_ | refine yc ?_ (ha := by first | exact hco _ _ | exact hpa _ _ | assumption) | refine sG (fun _ => ?_) fun _ => ?_ | refine aG ?_ | refine sH (fun _ => ?_) fun _ => ?_ | fail)
    refine wG ?_
    exact ih t (by rw [dJ, hhi, ← ht]; rfl)
   rw [if_pos hp] at hhi
   rw [hp] at hpa
   have hde := fun s H => aNi (s := s) (H := H) (hby y hym)
   have hft := fun s H => hfit i (yU y.bytes) s H (S2 _)
   generalize yU y.bytes = f at *
   generalize C0 y.bytes = er at *
   unfold Frame.v at hde hft
   by_cases he : er = 0
   ·subst he
    cases hf : F6 c (P p) (S p) p i f
    ·rw [if_neg (by simp [hf])] at hhi
     rw [hf] at hft
     refine aJ (by dsimp only [eT, lk, Nat.reduceBEq, cond_true, cond_false, Option.getD_some, Option.getD_none]; first | done | exact rfl) ?_; refine aE ?_
     unfold fW
     repeat' (first | refine aF ?_ | refine yc ?_ | refine sG (fun _ => ?_) fun _ => ?_ | refine aG ?_ | refine sH (fun _ => ?_) fun _ => ?_ | fail)
     refine tF ?_ (ha := wK)
     refine cI ?_ (ha := l0 (p := tI (i : Int)) ?h1 ?h2 (by omega) (fun x hx => ?h3) rfl)
     case h1 => simp [V.rbL, V.rb]
     case h2 => simp [V.rbL, V.rb]
     case h3 => exact l5 (by simp)
     rw [e2]
     repeat' (first | refine aF ?_ | refine yc ?_ (ha := by first | exact hco _ _ | exact hpa _ _ | exact hde _ _ | exact hft _ _ | assumption) | refine sG (fun _ => ?_) fun _ => ?_ | refine aG ?_ | refine sH (fun _ => ?_) fun _ => ?_ | fail)
     refine wG ?_
     exact ih (t.1, t.2 + 1) (by rw [dJ, hhi, ← ht]; rfl)
    ·rw [if_pos ⟨rfl, hf⟩] at hhi
     rw [hf] at hft
     refine aJ (by dsimp only [eT, lk, Nat.reduceBEq, cond_true, cond_false, Option.getD_some, Option.getD_none]; first | done | exact rfl) ?_; refine aE ?_
     unfold fW
     repeat' (first | refine aF ?_ | refine yc ?_ | refine sG (fun _ => ?_) fun _ => ?_ | refine aG ?_ | refine sH (fun _ => ?_) fun _ => ?_ | fail)
     refine tF ?_ (ha := wK)
     refine cI ?_ (ha := l0 (p := tI (i : Int)) ?h1 ?h2 (by omega) (fun x hx => ?h3) rfl)
     case h1 => simp [V.rbL, V.rb]
     case h2 => simp [V.rbL, V.rb]
     case h3 => exact l5 (by simp)
     rw [e2]
     repeat' (first | refine aF ?_ | refine yc ?_ (ha := by first | exact hco _ _ | exact hpa _ _ | exact hde _ _ | exact hft _ _ | assumption) | refine sG (fun _ => ?_) fun _ => ?_ | refine aG ?_ | refine sH (fun _ => ?_) fun _ => ?_ | fail)
     refine wG ?_
     exact ih (t.1 ++ [⟨i, f, y.tim⟩], t.2) (by rw [dJ, hhi, ← ht]; rfl)
   ·rw [if_neg (fun k => he k.1)] at hhi
    refine aJ (by dsimp only [eT, lk, Nat.reduceBEq, cond_true, cond_false, Option.getD_some, Option.getD_none]; first | done | exact rfl) ?_; refine aE ?_
    unfold fW
    repeat' (first | refine aF ?_ | refine yc ?_ | refine sG (fun _ => ?_) fun _ => ?_ | refine aG ?_ | refine sH (fun _ => ?_) fun _ => ?_ | fail)
    refine tF ?_ (ha := wK)
    refine cI ?_ (ha := l0 (p := tI (i : Int)) ?h1 ?h2 (by omega) (fun x hx => ?h3) rfl)
    case h1 => simp [V.rbL, V.rb]
    case h2 => simp [V.rbL, V.rb]
    case h3 => exact l5 (by simp)
    rw [e2]
    repeat' (first | refine aF ?_ | refine yc ?_ (ha := by first | exact hco _ _ | exact hpa _ _ | exact hde _ _ | assumption) | refine sG (fun _ => ?_) fun _ => ?_ | refine aG ?_ | refine sH (fun _ => ?_) fun _ => ?_ | fail)
    refine wG ?_
    exact ih (t.1, t.2 + 1) (by rw [dJ, hhi, ← ht]; rfl)
 ·intro t ht
  refine aJ (by dsimp only [eT, lk, Nat.reduceBEq, cond_true, cond_false, Option.getD_some, Option.getD_none]; first | done | exact rfl) ?_; refine aE ?_
  unfold fW
  repeat' (first | refine aF ?_ | refine yc ?_ | refine sG (fun _ => ?_) fun _ => ?_ | refine aG ?_ | refine sH (fun _ => ?_) fun _ => ?_ | fail)
  rw [ht]
set_option maxHeartbeats 8000000 in
theorem aLk {c : Config} {P : Nat → List Port} {S : Nat → List Slot} (hN : NetR c P S) (hR : SlotR P S) (hQ : PortR c P) (hw : 0 ≤ c.window ∧ c.window ≤ 1000000000000) {p : Nat} (hp : p < c.parts.length) (hS : (S p).length ≤ 1000) {s : Option Nat} {H : aB} {g : Guard} {ppm : Int} {says : List Say} {lost : List Int} (hsl : says.length ≤ 1000000) (hby : ∀ y ∈ says, y.bytes.length ≤ 1000000) (hlo : lost.length ≤ 1000000) :
 Call tab s vC [c.v, .int .i64 (p : Int), g.v, .int .i64 ppm, .sl none says.length (enL says), .sl none lost.length (enL lost)] H = some (pF (cB c (P p) (S p) p g ppm says lost), H) := by
 unfold pF cB
 generalize hh : lX c (P p) (S p) p g ppm says lost = h
 have hslt := fun s H => hN.rslt s H p hp
 have hfit : ∀ (i : Nat) (f : Frame) s H, f.ages.length ≤ 6 → Call tab s gB [c.v, .int .i64 (p : Int), .int .i64 (i : Int), f.v] H = some (.bool (F6 c (P p) (S p) p i f), H) := fun i f s H hf => aD8 hN hR hQ hS hp (by omega)
 unfold Config.v Guard.v at *
 ((first | refine aC ?_ | skip); refine bE (cf := uG) rfl rfl rfl rfl ?_; unfold uG; dsimp only [aA, Nat.reduceAdd, Nat.zero_add])
 repeat' (first | refine aF ?_ | refine yc ?_ (ha := by first | exact hslt _ _ | assumption) | refine sG (fun _ => ?_) fun _ => ?_ | refine aG ?_ | refine sH (fun _ => ?_) fun _ => ?_ | fail)
 refine oK (S p).length (fun i (t : List Heard × Nat) => [(14, .sl (some 16) t.1.length (enL t.1)), (15, .int .i64 (t.2 : Int)), (17, .int .i64 i)]) (fun _ _ => _) (fun i t => t = dJ h i) ?_ ?_ ([], 0) rfl
 ·intro i t hi ht ih
  obtain ⟨x, hx⟩ := oZ hi
  have hil : (i : Int) < ((S p).length : Int) := by omega
  have hwi : IntKind.i64.wrap ((i : Int) + 1) = ((i + 1 : Nat) : Int) := IntWalk.i64_in _ (by omega)
  have hln := l6 (h := h) i
  rw [← ht] at hln
  have hwb : IntKind.i64.wrap ((t.2 : Int) + 1) = ((t.2 + 1 : Nat) : Int) := IntWalk.i64_in _ (by omega)
  have hhi : h i = lX c (P p) (S p) p g ppm says lost i := by rw [← hh]
  have hgd : (S p).getD i default = x := by rw [List.getD_eq_getElem?_getD, hx]; rfl
  unfold lX at hhi
  rw [hgd] at hhi
  have hco := fun s H => aRl (s := s) (H := H) (l := lost) (x := (i : Int)) (by omega)
  refine aJ (by dsimp only [eT, lk, Nat.reduceBEq, cond_true, cond_false, Option.getD_some, Option.getD_none]; first | done | exact rfl) ?_; refine aE ?_
  unfold qU
  repeat' (first | refine aF ?_ | refine yc ?_ | refine sG (fun _ => ?_) fun _ => ?_ | refine aG ?_ | refine sH (fun _ => ?_) fun _ => ?_ | fail)
  refine oK says.length (fun k (_ : Unit) => [(18, .int .i64 (-1)), (19, .int .i64 k)]) (fun _ _ => _) (fun k _ => yS (tI (i : Int)) says 0 = yS (tI (i : Int)) (says.drop k) k) ?_ ?_ () rfl
  ·intro k _ hk hq ih2
   obtain ⟨y, hy⟩ := oZ hk
   have hj : (k : Int) < (says.length : Int) := by omega
   have hj0 : ¬ (k : Int) < 0 := by omega
   have hm1 : (-1 : Int) < 0 := by decide
   have hwk : IntKind.i64.wrap ((k : Int) + 1) = ((k + 1 : Nat) : Int) := IntWalk.i64_in _ (by omega)
   rw [oH hy] at hq
   cases hyi : tI (i : Int) y
   ·rw [wO hyi] at hq
    have hne : ¬ y.slot = (i : Int) := by simpa using hyi
    refine aJ (by dsimp only [eT, lk, Nat.reduceBEq, cond_true, cond_false, Option.getD_some, Option.getD_none]; first | done | exact rfl) ?_; refine aE ?_
    unfold nF
    repeat' (first | refine aF ?_ | refine yc ?_ | refine sG (fun _ => ?_) fun _ => ?_ | refine aG ?_ | refine sH (fun _ => ?_) fun _ => ?_ | fail)
    refine cV ?_
    exact ih2 () hq
   rw [rH hyi] at hq
   have heq : y.slot = (i : Int) := by simpa using hyi
   rcases i6 (p := tI (i : Int)) says 0 with ⟨e1, e2⟩ | ⟨j, y', hy', e1, e2⟩
   ·omega
   obtain rfl : j = k := by omega
   obtain rfl : y' = y := by rw [hy] at hy'; exact (Option.some.inj hy').symm
   rw [show says.find? (fun y => y.slot == (i : Int)) = some y' from e1] at hhi
   have hym := List.mem_of_getElem? hy
   simp only at hhi
   clear ih2 hq e2
   refine aJ (by dsimp only [eT, lk, Nat.reduceBEq, cond_true, cond_false, Option.getD_some, Option.getD_none]; first | done | exact rfl) ?_; refine aE ?_
   unfold nF
   repeat' (first | refine aF ?_ | refine yc ?_ | refine sG (fun _ => ?_) fun _ => ?_ | refine aG ?_ | refine sH (fun _ => ?_) fun _ => ?_ | fail)
   refine cV ?_
   refine aE ?_
   cases hb : inB lost i
   rotate_left
   ·rw [if_pos hb] at hhi
    rw [hb] at hco
    repeat' (first | refine aF ?_ | refine yc ?_ (ha := by first | exact hco _ _ | assumption) | refine sG (fun _ => ?_) fun _ => ?_ | refine aG ?_ | refine sH (fun _ => ?_) fun _ => ?_ | fail)
    all_goals refine cV ?_
    all_goals exact ih t (by rw [dJ, hhi, ← ht]; rfl)
   rw [if_neg (by simp [hb])] at hhi
   rw [hb] at hco
   have hpa := fun s H => aQ4 (s := s) (H := H) (g := g) (a := x.off) (ppm := ppm) (w := c.window) (arr := y'.tim) hw
   unfold Guard.v at hpa
   cases hp : X9 g x.off ppm c.window y'.tim
   ·rw [if_neg (by simp [hp])] at hhi
    rw [hp] at hpa
    repeat' (first | refine aF ?_ | refine yc ?_ (ha := by first | exact hco _ _ | exact hpa _ _ | assumption) | refine sG (fun _ => ?_) fun _ => ?_ | refine aG ?_ | refine sH (fun _ => ?_) fun _ => ?_ | fail)
    all_goals refine cV ?_
    all_goals exact ih t (by rw [dJ, hhi, ← ht]; rfl)
   rw [if_pos hp] at hhi
   rw [hp] at hpa
   have hde := fun s H => aKp (s := s) (H := H) (hby y' hym)
   have hft := fun s H => hfit i (yU y'.bytes) s H (S2 _)
   generalize yU y'.bytes = f at *
   generalize C0 y'.bytes = er at *
   unfold Frame.v at hde hft
   by_cases he : er = 0
   ·subst he
    cases hf : F6 c (P p) (S p) p i f
    ·rw [if_neg (by simp [hf])] at hhi
     rw [hf] at hft
     repeat' (first | refine aF ?_ | refine yc ?_ (ha := by first | exact hco _ _ | exact hpa _ _ | exact hde _ _ | exact hft _ _ | assumption) | refine sG (fun _ => ?_) fun _ => ?_ | refine aG ?_ | refine sH (fun _ => ?_) fun _ => ?_ | fail)
     all_goals refine wG ?_
     all_goals exact ih (t.1, t.2 + 1) (by rw [dJ, hhi, ← ht]; rfl)
    ·rw [if_pos ⟨rfl, hf⟩] at hhi
     rw [hf] at hft
     repeat' (first | refine aF ?_ | refine yc ?_ (ha := by first | exact hco _ _ | exact hpa _ _ | exact hde _ _ | exact hft _ _ | assumption) | refine sG (fun _ => ?_) fun _ => ?_ | refine aG ?_ | refine sH (fun _ => ?_) fun _ => ?_ | fail)
     all_goals refine wG ?_
     all_goals exact ih (t.1 ++ [⟨i, f, y'.tim⟩], t.2) (by rw [dJ, hhi, ← ht]; rfl)
   ·rw [if_neg (fun k => he k.1)] at hhi
    repeat' (first | refine aF ?_ | refine yc ?_ (ha := by first | exact hco _ _ | exact hpa _ _ | exact hde _ _ | assumption) | refine sG (fun _ => ?_) fun _ => ?_ | refine aG ?_ | refine sH (fun _ => ?_) fun _ => ?_ | fail)
    all_goals refine wG ?_
    all_goals exact ih (t.1, t.2 + 1) (by rw [dJ, hhi, ← ht]; rfl)
  ·intro _ hq
   rw [List.drop_length] at hq
   rcases i6 (p := tI (i : Int)) says 0 with ⟨e1, e2⟩ | ⟨j, y', hy', e1, e2⟩
   rotate_left
   ·rw [e2] at hq; simp only [yS] at hq; omega
   rw [show says.find? (fun y => y.slot == (i : Int)) = none from e1] at hhi
   refine aJ (by dsimp only [eT, lk, Nat.reduceBEq, cond_true, cond_false, Option.getD_some, Option.getD_none]; first | done | exact rfl) ?_; refine aE ?_
   unfold nF
   repeat' (first | refine aF ?_ | refine yc ?_ | refine sG (fun _ => ?_) fun _ => ?_ | refine aG ?_ | refine sH (fun _ => ?_) fun _ => ?_ | fail)
   refine cV ?_
   exact ih t (by rw [dJ, hhi, ← ht]; rfl)
 ·intro t ht
  refine aJ (by dsimp only [eT, lk, Nat.reduceBEq, cond_true, cond_false, Option.getD_some, Option.getD_none]; first | done | exact rfl) ?_; refine aE ?_
  unfold qU
  repeat' (first | refine aF ?_ | refine yc ?_ | refine sG (fun _ => ?_) fun _ => ?_ | refine aG ?_ | refine sH (fun _ => ?_) fun _ => ?_ | fail)
  rw [ht]
end Go.Abs
namespace Go.Abs
open Go.Proofs.YtpcnjabfiahhhaaGreatDoor
structure NetX (c : Config) (P : Nat → List Port) (S : Nat → List Slot) : Prop where
 net : NetR c P S
 slen : ∀ p, (S p).length ≤ 1000
 plen : ∀ p, (P p).length ≤ 1000
 prt : PortR c P
 slt : SlotR P S
 off : ∀ p, ∀ s ∈ S p, 60 ≤ s.off ∧ s.off ≤ 3000
 nod : ∀ p, p < c.parts.length → wR c p ≤ 10 ∧ ∀ n : Int, 0 ≤ n → n < wR c p → 0 ≤ oF (S p) 2 n
 gat : ∀ p, ∀ q ∈ P p, 0 ≤ q.node ∧ q.node < 12 ∧ 0 ≤ q.link ∧ q.link < 10 ∧ 0 ≤ oF (S p) 3 q.node ∧ oF (S p) 4 q.node = oF (S p) 3 q.node + 1 ∧ gU (P p) q.node = q.node
def aTt (m : List Slot) (n : Int) : Bool := decide (n ≤ 10) && (List.range n.toNat).all fun i => decide (0 ≤ oF m 2 (i : Int))
def bAy (l : List Port) (m : List Slot) : Bool := l.all fun q => decide (0 ≤ q.node ∧ q.node < 12 ∧ 0 ≤ q.link ∧ q.link < 10 ∧ 0 ≤ oF m 3 q.node ∧ oF m 4 q.node = oF m 3 q.node + 1 ∧ gU l q.node = q.node)
def aXr (m : List Slot) : Bool := m.all fun s => decide (60 ≤ s.off ∧ s.off ≤ 3000)
theorem aPs {m : List Slot} {n : Int} (h : aTt m n = true) : n ≤ 10 ∧ ∀ i : Int, 0 ≤ i → i < n → 0 ≤ oF m 2 i := by
 simp only [aTt, Bool.and_eq_true, decide_eq_true_eq, List.all_eq_true, List.mem_range] at h
 refine ⟨h.1, fun i h0 h1 => ?_⟩
 have := h.2 i.toNat (by omega)
 rwa [Int.toNat_of_nonneg h0] at this
theorem aTu {k : Nat} {x : Nums} (hk : k < 8) (h : NumOK ((dL k).length : Int) x) : NetX (pA k x) (fQ k) (jK k) where
 net := aKu hk h
 slen := fun p => (aCy k p).1
 plen := fun p => (aCy k p).2
 prt := aId hk x
 slt := aIe k
 off := fun p => by
  by_cases q : k < 8 ∧ p < (dL k).length
  ·have := kp (Q := fun k p => aXr (jK k p) = true) (by constructor <;> kernel_rfl) k p q.1 q.2
   intro s hs; exact of_decide_eq_true (List.all_eq_true.1 this s hs)
  ·rw [(aEl q).1]; intro s hs; cases hs
 nod := fun p hp => aPs (kp (Q := fun k p => aTt (jK k p) (wR (pA k x) p) = true) (by constructor <;> kernel_rfl) k p hk hp)
 gat := fun p => by
  by_cases q : k < 8 ∧ p < (dL k).length
  ·have := kp (Q := fun k p => bAy (fQ k p) (jK k p) = true) (by constructor <;> kernel_rfl) k p q.1 q.2
   intro s hs; exact of_decide_eq_true (List.all_eq_true.1 this s hs)
  ·rw [(aEl q).2]; intro s hs; cases hs
theorem W8 {s : Option Nat} {H : aB} (m : Int) : ∃ (c : Config) (P : Nat → List Port) (S : Nat → List Slot), NetX c P S ∧ Call tab s aR [.int .i64 m] H = some (c.v, H) := by
 obtain ⟨k, x, hk, hx, h⟩ := aFc (s := s) (H := H) m
 exact ⟨_, _, _, aTu hk hx, h⟩
section
variable {c : Config} {P : Nat → List Port} {S : Nat → List Slot} {s : Option Nat} {H : aB}
attribute [local irreducible] enL R RR dF cZ lV dE dG mP apply dB eI aX aZ cO aW fB aP aN cK bN gL cA V.rb V.rbL
end
end Go.Abs
namespace Go.Abs
open Go.Proofs.YtpcnjabfiahhhaaGreatDoor
theorem A4 {a b : Int} (h : 0 ≤ a) (hb : 0 < b) : ∃ q : Nat, a.tmod b = q ∧ (q : Int) < b :=
 ⟨(a.tmod b).toNat, by rw [Int.toNat_of_nonneg (Int.tmod_nonneg _ h)], by rw [Int.toNat_of_nonneg (Int.tmod_nonneg _ h)]; exact Int.tmod_lt_of_pos _ hb⟩
theorem aOt {a b : Int} (hb : 0 < b) : -b < a.tmod b ∧ a.tmod b < b := by
 refine ⟨?_, Int.tmod_lt_of_pos _ hb⟩
 have := Int.tmod_lt_of_pos (-a) hb
 rw [Int.neg_tmod] at this; omega
def sA (l : List Int) (i : Nat) : Int := l.getD i 0 % 2
attribute [local irreducible] enL R RR dF cZ lV dE dG mP apply dB eI aX aZ cO aW fB aP aN cK bN gL cA V.rb V.rbL
end Go.Abs
namespace Go.Abs
open Go.Proofs.YtpcnjabfiahhhaaGreatDoor
structure Said where
 frame : Frame
 bytes : List (UInt8)
 slot : Int
 late : Int
 fit : Bool
 deriving DecidableEq, Inhabited
def Said.enc (x : Said) : List V := [.int .i64 x.frame.kind, .int .i64 x.frame.part, .int .i64 x.frame.node, .int .i64 x.frame.wait, .int .i64 x.frame.mask, .int .i64 x.frame.link, .bool x.frame.flag, .int .i64 x.frame.cycle, .int .i64 x.frame.offset, .sl none x.frame.ages.length (enL x.frame.ages), .int .i64 x.frame.frm, .int .i64 x.frame.to, .int .i64 x.frame.seq, .sl none x.frame.body.length (enL x.frame.body), .sl none x.bytes.length (enL x.bytes), .int .i64 x.slot, .int .i64 x.late, .bool x.fit]
abbrev Said.v (x : Said) : V := .agg [.int .i64 x.frame.kind, .int .i64 x.frame.part, .int .i64 x.frame.node, .int .i64 x.frame.wait, .int .i64 x.frame.mask, .int .i64 x.frame.link, .bool x.frame.flag, .int .i64 x.frame.cycle, .int .i64 x.frame.offset, .sl none x.frame.ages.length (enL x.frame.ages), .int .i64 x.frame.frm, .int .i64 x.frame.to, .int .i64 x.frame.seq, .sl none x.frame.body.length (enL x.frame.body), .sl none x.bytes.length (enL x.bytes), .int .i64 x.slot, .int .i64 x.late, .bool x.fit]
instance : Cel Said := ⟨18, Said.enc, fun _ => rfl, fun m x => aD aI (aD aI (aD aI (aD aI (aD aI (aD aI (aD tH (aD aI (aD aI (aD (pE (fI m _)) (aD aI (aD aI (aD aI (aD (pE (fI m _)) (aD (pE (fI m _)) (aD aI (aD aI (aD tH (jI)))))))))))))))))), fun _ => rfl⟩
instance (x : Said) : Expl x [.int .i64 x.frame.kind, .int .i64 x.frame.part, .int .i64 x.frame.node, .int .i64 x.frame.wait, .int .i64 x.frame.mask, .int .i64 x.frame.link, .bool x.frame.flag, .int .i64 x.frame.cycle, .int .i64 x.frame.offset, .sl none x.frame.ages.length (enL x.frame.ages), .int .i64 x.frame.frm, .int .i64 x.frame.to, .int .i64 x.frame.seq, .sl none x.frame.body.length (enL x.frame.body), .sl none x.bytes.length (enL x.bytes), .int .i64 x.slot, .int .i64 x.late, .bool x.fit] := ⟨rfl⟩
instance (priority := high) {a1 : Int} {a2 : Int} {a3 : Int} {a4 : Int} {a5 : Int} {a6 : Int} {a7 : Bool} {a8 : Int} {a9 : Int} {a10 : List (Int)} {a11 : Int} {a12 : Int} {a13 : Int} {a14 : List (UInt8)} {a15 : List (UInt8)} {a16 : Int} {a17 : Int} {a18 : Bool} : Expl (⟨⟨a1, a2, a3, a4, a5, a6, a7, a8, a9, a10, a11, a12, a13, a14⟩, a15, a16, a17, a18⟩ : Said) [.int .i64 a1, .int .i64 a2, .int .i64 a3, .int .i64 a4, .int .i64 a5, .int .i64 a6, .bool a7, .int .i64 a8, .int .i64 a9, .sl none a10.length (enL a10), .int .i64 a11, .int .i64 a12, .int .i64 a13, .sl none a14.length (enL a14), .sl none a15.length (enL a15), .int .i64 a16, .int .i64 a17, .bool a18] := ⟨rfl⟩
instance {a1 : Int} {a2 : Int} {a3 : Int} {a4 : Int} {a5 : Int} {a6 : Int} {a7 : Bool} {a8 : Int} {a9 : Int} {a10 : List (Int)} {v10 : V} {a11 : Int} {a12 : Int} {a13 : Int} {a14 : List (UInt8)} {v14 : V} {a15 : List (UInt8)} {v15 : V} {a16 : Int} {a17 : Int} {a18 : Bool} {r : List V} {xs : List Said} [h10 : SlL (Int) v10 a10] [h14 : SlL (UInt8) v14 a14] [h15 : SlL (UInt8) v15 a15] [h : FoldL Said r xs] : FoldL Said (.int .i64 a1 :: .int .i64 a2 :: .int .i64 a3 :: .int .i64 a4 :: .int .i64 a5 :: .int .i64 a6 :: .bool a7 :: .int .i64 a8 :: .int .i64 a9 :: v10 :: .int .i64 a11 :: .int .i64 a12 :: .int .i64 a13 :: v14 :: v15 :: .int .i64 a16 :: .int .i64 a17 :: .bool a18 :: r) (⟨⟨a1, a2, a3, a4, a5, a6, a7, a8, a9, a10, a11, a12, a13, a14⟩, a15, a16, a17, a18⟩ :: xs) := ⟨by rw [bL, ← h.eq, h10.eq, h14.eq, h15.eq]; rfl⟩
attribute [local irreducible] enL R RR dF cZ lV dE dG mP apply dB eI aX aZ cO aW fB aP aN cK bN gL cA V.rb V.rbL
abbrev tG : Ty := .st [.bool, .int .i64, .sl (.int .i64)]
abbrev yY : Ty := .st [m4, .sl (.int .u8), .int .i64, .int .i64, .bool]
theorem R3 {cs : List V} (h : tC tG cs) : ∃ x : Guard, cs = Cel.enc x ∧ True := by
 simp only [tG, tC, TyL] at h
 obtain ⟨_, _, rfl, ⟨a, rfl⟩, _, _, rfl, ⟨b, rfl, _⟩, f, _, rfl, hf, rfl⟩ := h
 obtain ⟨f', rfl, _⟩ := aFs (fun _ => aDq) (show tC (.sl (.int .i64)) f from by simpa only [tC] using hf)
 exact ⟨⟨a, b, f'⟩, rfl, trivial⟩
theorem aD1 {cs : List V} (h : tC yY cs) : ∃ x : Said, cs = Cel.enc x ∧ True := by
 simp only [yY, tC, TyL] at h
 obtain ⟨f, _, rfl, hf, b, _, rfl, hb, _, _, rfl, ⟨c, rfl, _⟩, _, _, rfl, ⟨d, rfl, _⟩, _, _, rfl, ⟨e, rfl⟩, rfl⟩ := h
 obtain ⟨x, rfl, _⟩ := aFg (cs := f) (by simpa only [m4, tC, TyL] using hf)
 obtain ⟨b', rfl, _⟩ := aFs (fun _ => aRm) (show tC (.sl (.int .u8)) b from by simpa only [tC] using hb)
 exact ⟨⟨x, b', c, d, e⟩, rfl, trivial⟩
def yZ (x : Said) : Bool := decide (x.bytes.length ≤ 100 ∧ x.frame.ages.length ≤ 20 ∧ x.frame.body.length ≤ 100)
abbrev aL4 (g : Guard) (l : List Said) : Prop := l.length ≤ 40 ∧ -549755813888 ≤ g.start ∧ g.start ≤ 549755813888 ∧ g.ages.length ≤ 20
def sC (g : Guard) (l : List Said) : Bool := decide (aL4 g l) && l.all yZ
section
variable {s : Option Nat} {H : aB}
set_option maxHeartbeats 2000000 in
theorem F9 {g : Guard} {l : List Said} (hl : l.length ≤ 140737488355328) : Call tab s pW [g.v, .sl none l.length (enL l)] H = some (.bool (sC g l), H) := by
 unfold sC
 by_cases h : aL4 g l
 rotate_left
 ·rw [decide_eq_false h, Bool.false_and]
  unfold Guard.v
  ((first | refine aC ?_ | skip); refine bE (cf := mR) rfl rfl rfl rfl ?_; unfold mR; dsimp only [aA, Nat.reduceAdd, Nat.zero_add])
  by_cases h1 : l.length ≤ 40
  ·have h1' : ¬ (40 : Int) < (l.length : Int) := by omega
   by_cases h2 : -549755813888 ≤ g.start
   ·by_cases h3 : g.start ≤ 549755813888
    ·have h4 : ¬ g.ages.length ≤ 20 := fun k => h ⟨h1, h2, h3, k⟩
     have h4' : (20 : Int) < (g.ages.length : Int) := by omega
     repeat' (first | refine aF ?_ | refine yc ?_ | refine sG (fun _ => ?_) fun _ => ?_ | refine aG ?_ | refine sH (fun _ => ?_) fun _ => ?_ | fail)
     rfl
    ·have h3' : 549755813888 < g.start := by omega
     repeat' (first | refine aF ?_ | refine yc ?_ | refine sG (fun _ => ?_) fun _ => ?_ | refine aG ?_ | refine sH (fun _ => ?_) fun _ => ?_ | fail)
     rfl
   ·have h2' : g.start < -549755813888 := by omega
    repeat' (first | refine aF ?_ | refine yc ?_ | refine sG (fun _ => ?_) fun _ => ?_ | refine aG ?_ | refine sH (fun _ => ?_) fun _ => ?_ | fail)
    rfl
  ·have h1' : (40 : Int) < (l.length : Int) := by omega
   repeat' (first | refine aF ?_ | refine yc ?_ | refine sG (fun _ => ?_) fun _ => ?_ | refine aG ?_ | refine sH (fun _ => ?_) fun _ => ?_ | fail)
   rfl
 rw [decide_eq_true h, Bool.true_and]
 obtain ⟨h1, h2, h3, h4⟩ := h
 unfold Guard.v
 ((first | refine aC ?_ | skip); refine bE (cf := mR) rfl rfl rfl rfl ?_; unfold mR; dsimp only [aA, Nat.reduceAdd, Nat.zero_add])
 repeat' (first | refine aF ?_ | refine yc ?_ | refine sG (fun _ => ?_) fun _ => ?_ | refine aG ?_ | refine sH (fun _ => ?_) fun _ => ?_ | fail)
 refine oK l.length (fun i (_ : Unit) => [(5, .int .i64 i)]) (fun _ _ => _) (fun i _ => l.all yZ = (l.drop i).all yZ) ?_ ?_ () rfl
 ·intro i _ hi hq ih
  obtain ⟨x, hx⟩ := oZ hi
  rw [oH hx, List.all_cons] at hq
  have hil : (i : Int) < (l.length : Int) := by omega
  have hwi : IntKind.i64.wrap ((i : Int) + 1) = ((i + 1 : Nat) : Int) := IntWalk.i64_in _ (by omega)
  by_cases k1 : x.bytes.length ≤ 100
  ·by_cases k2 : x.frame.ages.length ≤ 20
   ·by_cases k3 : x.frame.body.length ≤ 100
    ·rw [show yZ x = true from decide_eq_true ⟨k1, k2, k3⟩, Bool.true_and] at hq
     refine aJ (by dsimp only [eT, lk, Nat.reduceBEq, cond_true, cond_false, Option.getD_some, Option.getD_none]; first | done | exact rfl) ?_; refine aE ?_
     unfold fT
     repeat' (first | refine aF ?_ | refine yc ?_ | refine sG (fun _ => ?_) fun _ => ?_ | refine aG ?_ | refine sH (fun _ => ?_) fun _ => ?_ | fail)
     refine cV ?_
     exact ih () hq
    ·rw [show yZ x = false from decide_eq_false (fun k => k3 k.2.2), Bool.false_and] at hq
     refine aJ (by dsimp only [eT, lk, Nat.reduceBEq, cond_true, cond_false, Option.getD_some, Option.getD_none]; first | done | exact rfl) ?_; refine aE ?_
     unfold fT
     repeat' (first | refine aF ?_ | refine yc ?_ | refine sG (fun _ => ?_) fun _ => ?_ | refine aG ?_ | refine sH (fun _ => ?_) fun _ => ?_ | fail)
     rw [hq]
   ·rw [show yZ x = false from decide_eq_false (fun k => k2 k.2.1), Bool.false_and] at hq
    refine aJ (by dsimp only [eT, lk, Nat.reduceBEq, cond_true, cond_false, Option.getD_some, Option.getD_none]; first | done | exact rfl) ?_; refine aE ?_
    unfold fT
    repeat' (first | refine aF ?_ | refine yc ?_ | refine sG (fun _ => ?_) fun _ => ?_ | refine aG ?_ | refine sH (fun _ => ?_) fun _ => ?_ | fail)
    rw [hq]
  ·rw [show yZ x = false from decide_eq_false (fun k => k1 k.1), Bool.false_and] at hq
   refine aJ (by dsimp only [eT, lk, Nat.reduceBEq, cond_true, cond_false, Option.getD_some, Option.getD_none]; first | done | exact rfl) ?_; refine aE ?_
   unfold fT
   repeat' (first | refine aF ?_ | refine yc ?_ | refine sG (fun _ => ?_) fun _ => ?_ | refine aG ?_ | refine sH (fun _ => ?_) fun _ => ?_ | fail)
   rw [hq]
 ·intro _ hq
  rw [List.drop_length] at hq
  refine aJ (by dsimp only [eT, lk, Nat.reduceBEq, cond_true, cond_false, Option.getD_some, Option.getD_none]; first | done | exact rfl) ?_; refine aE ?_
  unfold fT
  repeat' (first | refine aF ?_ | refine yc ?_ | refine sG (fun _ => ?_) fun _ => ?_ | refine aG ?_ | refine sH (fun _ => ?_) fun _ => ?_ | fail)
  rw [hq]; rfl
theorem aS5 {a b : Int} : ∃ c : Int, ∀ s H, Call tab s aA0 [.int .i64 a, .int .i64 b] H = some (.int .i64 c, H) := by
 by_cases h1 : 0 < b
 ·have h2 : ¬ b < 0 := by omega
  by_cases h3 : IntKind.i64.wrap (9223372036854775807 - b) < a
  ·refine ⟨9223372036854775807, fun s H => ?_⟩
   ((first | refine aC ?_ | skip); refine bE (cf := fH) rfl rfl rfl rfl ?_; unfold fH; dsimp only [aA, Nat.reduceAdd, Nat.zero_add])
   repeat' (first | refine aF ?_ | refine yc ?_ | refine sG (fun _ => ?_) fun _ => ?_ | refine aG ?_ | refine sH (fun _ => ?_) fun _ => ?_ | fail)
   all_goals rfl
  ·refine ⟨IntKind.i64.wrap (a + b), fun s H => ?_⟩
   ((first | refine aC ?_ | skip); refine bE (cf := fH) rfl rfl rfl rfl ?_; unfold fH; dsimp only [aA, Nat.reduceAdd, Nat.zero_add])
   repeat' (first | refine aF ?_ | refine yc ?_ | refine sG (fun _ => ?_) fun _ => ?_ | refine aG ?_ | refine sH (fun _ => ?_) fun _ => ?_ | fail)
   all_goals rfl
 ·by_cases h2 : b < 0
  ·by_cases h3 : a < IntKind.i64.wrap (-9223372036854775808 - b)
   ·refine ⟨-9223372036854775808, fun s H => ?_⟩
    ((first | refine aC ?_ | skip); refine bE (cf := fH) rfl rfl rfl rfl ?_; unfold fH; dsimp only [aA, Nat.reduceAdd, Nat.zero_add])
    repeat' (first | refine aF ?_ | refine yc ?_ | refine sG (fun _ => ?_) fun _ => ?_ | refine aG ?_ | refine sH (fun _ => ?_) fun _ => ?_ | fail)
    all_goals rfl
   ·refine ⟨IntKind.i64.wrap (a + b), fun s H => ?_⟩
    ((first | refine aC ?_ | skip); refine bE (cf := fH) rfl rfl rfl rfl ?_; unfold fH; dsimp only [aA, Nat.reduceAdd, Nat.zero_add])
    repeat' (first | refine aF ?_ | refine yc ?_ | refine sG (fun _ => ?_) fun _ => ?_ | refine aG ?_ | refine sH (fun _ => ?_) fun _ => ?_ | fail)
    all_goals rfl
  ·refine ⟨IntKind.i64.wrap (a + b), fun s H => ?_⟩
   ((first | refine aC ?_ | skip); refine bE (cf := fH) rfl rfl rfl rfl ?_; unfold fH; dsimp only [aA, Nat.reduceAdd, Nat.zero_add])
   repeat' (first | refine aF ?_ | refine yc ?_ | refine sG (fun _ => ?_) fun _ => ?_ | refine aG ?_ | refine sH (fun _ => ?_) fun _ => ?_ | fail)
   all_goals rfl
set_option maxHeartbeats 4000000 in
theorem K7 {L : List Heard} (hl : L.length ≤ 140737488355328) (ha : ∀ x ∈ L, x.frame.ages.length ≤ 1000) : Call tab s eL [.sl none L.length (enL L), .sl none L.length (enL L)] H = some (.bool true, H) := by
 ((first | refine aC ?_ | skip); refine bE (cf := oN) rfl rfl rfl rfl ?_; unfold oN; dsimp only [aA, Nat.reduceAdd, Nat.zero_add])
 repeat' (first | refine aF ?_ | refine yc ?_ | refine sG (fun _ => ?_) fun _ => ?_ | refine aG ?_ | refine sH (fun _ => ?_) fun _ => ?_ | fail)
 refine oK L.length (fun i (_ : Unit) => [(5, .int .i64 i)]) (fun _ _ => _) (fun i _ => True) ?_ ?_ () trivial
 ·intro i _ hi _ ih
  obtain ⟨x, hx⟩ := oZ hi
  have hw : IntKind.i64.wrap ((i : Int) + 1) = ((i + 1 : Nat) : Int) := IntWalk.i64_in _ (by omega)
  have hil : (i : Int) < (L.length : Int) := by omega
  have hxa := ha x (List.mem_of_getElem? hx)
  have h3 := fun s H => pS (s := s) (H := H) (a := x.frame) (b := x.frame) (by omega) (by omega)
  rw [decide_eq_true rfl] at h3
  unfold Frame.v at *
  refine aJ (by dsimp only [eT, lk, Nat.reduceBEq, cond_true, cond_false, Option.getD_some, Option.getD_none]; first | done | exact rfl) ?_; refine aE ?_
  unfold lZ
  repeat' (first | refine aF ?_ | refine yc ?_ (ha := by first | exact h3 _ _ | assumption) | refine sG (fun _ => ?_) fun _ => ?_ | refine aG ?_ | refine sH (fun _ => ?_) fun _ => ?_ | fail)
  refine cV ?_
  exact ih () trivial
 ·intro _ _
  refine aJ (by dsimp only [eT, lk, Nat.reduceBEq, cond_true, cond_false, Option.getD_some, Option.getD_none]; first | done | exact rfl) ?_; refine aE ?_
  unfold lZ
  repeat' (first | refine aF ?_ | refine yc ?_ | refine sG (fun _ => ?_) fun _ => ?_ | refine aG ?_ | refine sH (fun _ => ?_) fun _ => ?_ | fail)
  rfl
end
section
variable {c : Config} {P : Nat → List Port} {S : Nat → List Slot} {s : Option Nat} {H : aB} {q : Nat} {g : Guard}
theorem R4 (hX : NetX c P S) (hq : q < c.parts.length) {ppm : Int} {says : List Say} {lost : List Int} (hsl : says.length ≤ 1000000) (hby : ∀ y ∈ says, y.bytes.length ≤ 1000000) (hlo : lost.length ≤ 1000000) :
 Call tab s dH [c.v, .int .i64 (q : Int), g.v, .int .i64 ppm, .sl none says.length (enL says), .sl none lost.length (enL lost)] H = some (pF (cB c (P q) (S q) q g ppm says lost), H) := by
 have hwi := hX.net.wi; have heb := hX.net.toNet.eb
 have ho := fun s H => aRc (s := s) (H := H) hX.net.toNet (p := q) hq
 have hh := fun s H => aT4 (s := s) (H := H) (c := c) (p := q) (g := g) (ppm := ppm) (says := says) (lost := lost) hX.slt (by omega) (hX.slen q) (hX.plen q) hsl hby hlo
 unfold pF at *
 generalize cB c (P q) (S q) q g ppm says lost = Q at *
 unfold Config.v View.v jY Guard.v at *
 ((first | refine aC ?_ | skip); refine bE (cf := zK) rfl rfl rfl rfl ?_; unfold zK; dsimp only [aA, Nat.reduceAdd, Nat.zero_add])
 repeat' (first | refine aF ?_ | refine yc ?_ (ha := by first | exact ho _ _ | exact hh _ _ | assumption) | refine sG (fun _ => ?_) fun _ => ?_ | refine aG ?_ | refine sH (fun _ => ?_) fun _ => ?_ | fail)
 rfl
theorem aBm (hX : NetX c P S) (hq : q < c.parts.length) : 0 < (S q).length := by
 have h1 := (hX.net.room q hq).1
 have h2 := (hX.nod q hq).2 0 (by omega) (by omega)
 obtain ⟨_, _, h, _⟩ := aGs h2
 omega
set_option maxHeartbeats 8000000 in
theorem aS6 (hX : NetX c P S) (hq : q < c.parts.length) {l : List Said} (hr : sC g l = true) :
 Ev (Call tab s oS [c.v, .int .i64 (q : Int), g.v, .sl none l.length (enL l)] H) (fun r => ∃ L : List Say, r = some (.sl (some 3) L.length (enL L), H) ∧ L.length = l.length ∧ ∀ y ∈ L, y.bytes.length ≤ 1000) := by
 have hn1 := hX.net.n1
 have hn0 := aBm hX hq
 have hnl := hX.slen q
 have hslt := fun s H => hX.net.rslt s H q hq
 have hpo := fun n s H => aJ3 (s := s) (H := H) hX.net.toNet hX.prt (n := n) hq
 simp only [sC, Bool.and_eq_true, decide_eq_true_eq, List.all_eq_true] at hr
 obtain ⟨⟨hl, hg1, hg2, hga⟩, hall⟩ := hr
 unfold Config.v Guard.v at *
 ((first | refine aC ?_ | skip); refine bE (cf := wT) rfl rfl rfl rfl ?_; unfold wT; dsimp only [aA, Nat.reduceAdd, Nat.zero_add])
 repeat' (first | refine aF ?_ | refine yc ?_ (ha := by first | exact hslt _ _ | assumption) | refine sG (fun _ => ?_) fun _ => ?_ | refine aG ?_ | refine sH (fun _ => ?_) fun _ => ?_ | fail)
 refine oK l.length (fun i (L : List Say) => [(9, .sl (some 3) L.length (enL L)), (11, .int .i64 i)]) (fun _ _ => _) (fun i L => L.length = i ∧ ∀ y ∈ L, y.bytes.length ≤ 1000) ?_ ?_ [] ⟨rfl, by simp⟩
 ·intro i L hi hL ih
  obtain ⟨x, hx⟩ := oZ hi
  obtain ⟨hL1, hL2⟩ := hL
  have hxo := hall x (List.mem_of_getElem? hx)
  simp only [yZ, decide_eq_true_eq] at hxo
  obtain ⟨o1, o2, o3⟩ := hxo
  have hil : (i : Int) < (l.length : Int) := by omega
  have hwi : IntKind.i64.wrap ((i : Int) + 1) = ((i + 1 : Nat) : Int) := IntWalk.i64_in _ (by omega)
  have hsn : ((S q).length : Int) ≠ 0 := by omega
  have hk1b := aOt (a := x.slot) (b := ((S q).length : Int)) (by omega)
  obtain ⟨k1, hk1⟩ : ∃ k1, x.slot.tmod ((S q).length : Int) = k1 := ⟨_, rfl⟩
  rw [hk1] at hk1b
  obtain ⟨kn, hkn, hkl⟩ := A4 (a := k1 + ((S q).length : Int)) (b := ((S q).length : Int)) (by omega) (by omega)
  obtain ⟨z, hz⟩ := oZ (l := S q) (i := kn) (by omega)
  have hzo := hX.off q z (List.mem_of_getElem? hz)
  have hkl' : kn < (S q).length := by omega
  have hLl : L.length ≤ 1000 := by omega
  have hdt : ((enL l).drop (i * 18)).take 14 = [.int .i64 x.frame.kind, .int .i64 x.frame.part, .int .i64 x.frame.node, .int .i64 x.frame.wait, .int .i64 x.frame.mask, .int .i64 x.frame.link, .bool x.frame.flag, .int .i64 x.frame.cycle, .int .i64 x.frame.offset, .sl none x.frame.ages.length (enL x.frame.ages), .int .i64 x.frame.frm, .int .i64 x.frame.to, .int .i64 x.frame.seq, .sl none x.frame.body.length (enL x.frame.body)] := aDk (o := 0) (z := 18) hx rfl inferInstance rfl rfl
  have fin : ∀ (f : Frame) (b : List UInt8) (a : Int), b.length ≤ 1000 → (L ++ [(⟨kn, b, a⟩ : Say)]).length = i + 1 ∧ ∀ y ∈ L ++ [(⟨kn, b, a⟩ : Say)], y.bytes.length ≤ 1000 := by
   intro f b a hb
   refine ⟨by simp [hL1], fun y hy => ?_⟩
   rcases List.mem_append.1 hy with hy | hy
   ·exact hL2 y hy
   ·cases List.mem_singleton.1 hy; exact hb
  have enc : ∀ f : Frame, f.ages.length ≤ 1000 → f.body.length ≤ 1000 → ∃ (b : List UInt8) (e : Int) (z : Option Nat), aP2 f = .tup [.sl (some 1) b.length (enL b), .int .i64 e] ∧ b.length ≤ 1000 ∧ (e = 0 ∨ e = 1) := by
   intro f _ _
   unfold aP2; split
   ·rename_i hm; exact ⟨_, _, none, rfl, by rw [aKq]; have := aEq hm; omega, .inl rfl⟩
   ·exact ⟨[], 1, none, by rw [aL]; rfl, Nat.zero_le _, .inr rfl⟩
  obtain ⟨at', hadd⟩ := aS5 (a := g.start + z.off) (b := x.late)
  cases hf : x.fit
  ·have he := fun s H => aLl (s := s) (H := H) (f := x.frame) (by omega) (by omega)
   obtain ⟨b, e, _, e1, e2, e3⟩ := enc x.frame (by omega) (by omega)
   rw [e1] at he
   unfold Frame.v at he
   rcases e3 with rfl | rfl
   ·refine aJ (by dsimp only [eT, lk, Nat.reduceBEq, cond_true, cond_false, Option.getD_some, Option.getD_none]; first | done | exact rfl) ?_; refine aE ?_
    unfold gY
    repeat' (first | refine aF ?_ | refine yc ?_ (ha := by first | exact he _ _ | exact hadd _ _ | assumption) | refine sG (fun _ => ?_) fun _ => ?_ | refine aG ?_ | refine sH (fun _ => ?_) fun _ => ?_ | fail)
    refine wG ?_
    exact ih _ (fin x.frame b at' e2)
   ·refine aJ (by dsimp only [eT, lk, Nat.reduceBEq, cond_true, cond_false, Option.getD_some, Option.getD_none]; first | done | exact rfl) ?_; refine aE ?_
    unfold gY
    repeat' (first | refine aF ?_ | refine yc ?_ (ha := by first | exact he _ _ | exact hadd _ _ | assumption) | refine sG (fun _ => ?_) fun _ => ?_ | refine aG ?_ | refine sH (fun _ => ?_) fun _ => ?_ | fail)
    refine wG ?_
    exact ih _ (fin x.frame x.bytes at' (by omega))
  ·obtain ⟨y, pb, hpv⟩ : ∃ (y : Port) (b : Bool), qB (P q) z.node = .tup [y.v, .bool b] := by
    unfold qB; split
    ·exact ⟨_, _, rfl⟩
    ·exact ⟨_, _, rfl⟩
   have hpz := hpo z.node
   rw [hpv] at hpz
   obtain ⟨F, hF⟩ : ∃ F : Frame, F = ⟨z.kind, q, z.node, x.frame.wait, x.frame.mask % 4096, y.link, x.frame.flag, x.frame.cycle % 549755813888, x.frame.offset.tmod 274877906944, List.replicate c.parts.length 0, 0, (c.parts.length : Int) - 1, x.frame.seq % 1073741824 + 1, []⟩ := ⟨_, rfl⟩
   have hsp := fun s H => aAd (s := s) (H := H) (f := F)
   have hsl : (vK F).ages.length ≤ 1000 ∧ (vK F).body.length ≤ 1000 := by
    have ha : F.ages.length ≤ 1000 ∧ F.body.length ≤ 1000 := by rw [hF]; simp; omega
    unfold vK
    repeat' split
    all_goals simp [fr1, fr2, fr3, fr4, fr5, ha]
   have he := fun s H => aLl (s := s) (H := H) (f := vK F) (by omega) (by omega)
   obtain ⟨b, e, _, e1, e2, e3⟩ := enc (vK F) hsl.1 hsl.2
   rw [e1] at he
   generalize vK F = G at *
   rw [hF] at hsp
   unfold Frame.v at he hsp
   unfold Port.v at hpz
   simp only [aL, List.length_nil] at hsp
   rcases e3 with rfl | rfl
   ·refine aJ (by dsimp only [eT, lk, Nat.reduceBEq, cond_true, cond_false, Option.getD_some, Option.getD_none]; first | done | exact rfl) ?_; refine aE ?_
    unfold gY
    repeat' (first | refine aF ?_ | refine yc ?_ (ha := by first | exact hpz _ _ | exact hsp _ _ | exact he _ _ | exact hadd _ _ | assumption) | refine sG (fun _ => ?_) fun _ => ?_ | refine aG ?_ | refine sH (fun _ => ?_) fun _ => ?_ | fail)
    refine wG ?_
    exact ih _ (fin x.frame b at' e2)
   ·refine aJ (by dsimp only [eT, lk, Nat.reduceBEq, cond_true, cond_false, Option.getD_some, Option.getD_none]; first | done | exact rfl) ?_; refine aE ?_
    unfold gY
    repeat' (first | refine aF ?_ | refine yc ?_ (ha := by first | exact hpz _ _ | exact hsp _ _ | exact he _ _ | exact hadd _ _ | assumption) | refine sG (fun _ => ?_) fun _ => ?_ | refine aG ?_ | refine sH (fun _ => ?_) fun _ => ?_ | fail)
    refine wG ?_
    exact ih _ (fin x.frame x.bytes at' (by omega))
 ·intro L hL
  refine aJ (by dsimp only [eT, lk, Nat.reduceBEq, cond_true, cond_false, Option.getD_some, Option.getD_none]; first | done | exact rfl) ?_; refine aE ?_
  unfold gY
  repeat' (first | refine aF ?_ | refine yc ?_ | refine sG (fun _ => ?_) fun _ => ?_ | refine aG ?_ | refine sH (fun _ => ?_) fun _ => ?_ | fail)
  exact ⟨L, rfl, hL⟩
end
end Go.Abs
namespace Go.Abs
open Go.Proofs.YtpcnjabfiahhhaaGreatDoor
theorem aTb {β α : Type} {T : Tab} {s : Option Nat} {d : Nat} {f : FuncId} {xs : List X} {rs : List eJ} {e e1 e2 : aQ} {H : aB} {vs : List V} {κ : aQ × aB → Option β} {Y : Option β → Prop} {F : α → V} {Q : α → Prop} (ha : ∃ a, Call T s f vs H = some (F a, H) ∧ Q a) (k : ∀ a, Q a → Ev (RR T s rs ((d, F a) :: e2) H κ) Y) (hx : dB xs e = some (vs, e1) := by exact tHX) (hw : (T.pu f || gK e1) = true := by exact rfl) (hd : aX e1 d = e2 := by exact oX) :
 Ev (RR T s ((some d, none, .call f xs 0) :: rs) e H κ) Y := by
 obtain ⟨a, h1, h2⟩ := ha
 exact cI (k a h2) hx h1 hw hd
def aI5 (L : List Say) : V := .sl (some 3) L.length (enL L)
def aI6 (n : Nat) (L : List Say) : Prop := L.length = n ∧ ∀ y ∈ L, y.bytes.length ≤ 1000
section
variable {c : Config} {P : Nat → List Port} {S : Nat → List Slot} {q : Nat} {g : Guard}
theorem aGv (hX : NetX c P S) (hq : q < c.parts.length) {l : List Said} (hr : sC g l = true) (s : Option Nat) (H : aB) : ∃ L : List Say, Call tab s oS [c.v, .int .i64 (q : Int), g.v, .sl none l.length (enL l)] H = some (aI5 L, H) ∧ aI6 l.length L := (aS6 hX hq hr).so
theorem s9 {l : List Port} {m : List Slot} {p ppm : Int} {says : List Say} {lost : List Int} : ∀ x ∈ (cB c l m p g ppm says lost).1, x.frame.ages.length ≤ 1000 := by
 intro x hx
 obtain ⟨i, _, _, h⟩ := (l7 (fun i x h => (tL h).1) m.length).1 x hx
 unfold lX at h
 split at h
 ·cases h
 ·split at h
  ·cases h
  ·split at h
   ·split at h
    ·cases h; have := S2; exact Nat.le_trans (this _) (by decide)
    ·cases h
   ·cases h
theorem G9 {l : List Port} {m : List Slot} {p ppm : Int} {says : List Say} {lost : List Int} : (cB c l m p g ppm says lost).1.length + (cB c l m p g ppm says lost).2 ≤ m.length := l6 _
end
end Go.Abs
namespace Go.Abs
open Go.Proofs.YtpcnjabfiahhhaaGreatDoor
attribute [local irreducible] enL R RR dF cZ lV dE dG mP apply dB eI aX aZ cO aW fB aP aN cK bN gL cA V.rb V.rbL
set_option maxHeartbeats 8000000 in
theorem airHeard {us : List V} (h : aDt [.int .i64, .int .u8, tG, .sl yY, .sl (.int .i64)] us) : Call tab none vX us [] = some (.bool true, []) := by
 obtain ⟨_, _, rfl, h1, _, _, rfl, h2, _, _, rfl, h3, _, _, rfl, h4, _, _, rfl, h5, rfl⟩ := h
 obtain ⟨m, rfl, _⟩ := uW h1
 obtain ⟨p, rfl, wp⟩ := uW h2
 obtain ⟨cs, rfl, h3⟩ := h3
 obtain ⟨g, rfl, _⟩ := R3 h3
 obtain ⟨l, rfl, hl, _⟩ := aFt (fun _ => aD1) h4
 obtain ⟨lost, rfl, hlo, _⟩ := aFt (fun _ => aDq) h5
 have wp := aFr wp
 clear h1 h2 h3 h4 h5
 show Call tab none vX [.int .i64 m, .int .u8 p, g.v, .sl none l.length (enL l), .sl none lost.length (enL lost)] [] = _
 have hri := fun s H => F9 (s := s) (H := H) (g := g) (l := l) (by omega)
 cases hr : sC g l
 ·rw [hr] at hri
  unfold Guard.v at *
  ((first | refine aC ?_ | skip); refine bE (cf := dV) rfl rfl rfl rfl ?_; unfold dV; dsimp only [aA, Nat.reduceAdd, Nat.zero_add])
  repeat' (first | refine aF ?_ | refine yc ?_ (ha := by first | exact oO | exact hri _ _ | assumption) | refine sG (fun _ => ?_) fun _ => ?_ | refine aG ?_ | refine sH (fun _ => ?_) fun _ => ?_ | fail)
  all_goals rfl
 rw [hr] at hri
 by_cases hlo2 : lost.length ≤ 60
 rotate_left
 ·unfold Guard.v at *
  ((first | refine aC ?_ | skip); refine bE (cf := dV) rfl rfl rfl rfl ?_; unfold dV; dsimp only [aA, Nat.reduceAdd, Nat.zero_add])
  repeat' (first | refine aF ?_ | refine yc ?_ (ha := by first | exact oO | exact hri _ _ | assumption) | refine sG (fun _ => ?_) fun _ => ?_ | refine aG ?_ | refine sH (fun _ => ?_) fun _ => ?_ | fail)
  all_goals rfl
 obtain ⟨c, P, S, hX, hM⟩ := W8 (s := some 0) (H := [Cel.enc g]) m
 have hn1 := hX.net.n1
 obtain ⟨q, hq, hql⟩ := A4 (a := p) (b := (c.parts.length : Int)) wp.1 (by omega)
 have hql' : q < c.parts.length := by omega
 have wpw : IntKind.i64.wrap p = p := IntWalk.i64_in _ (by omega)
 have hpl0 : (c.parts.length : Int) ≠ 0 := by omega
 have hM : Call tab (some 0) aR [.int .i64 m] ([] ++ [[.bool g.on, .int .i64 g.start, .sl none g.ages.length (enL g.ages)]]) = _ := hM
 have hse := fun s H => aGv hX hql' hr s H
 have hll : l.length ≤ 40 := by
  simp only [sC, Bool.and_eq_true, decide_eq_true_eq] at hr; exact hr.1.1
 have hd1 : ∀ L, aI6 l.length L → ∀ s H, Call tab s dH [c.v, .int .i64 (q : Int), g.v, .int .i64 0, .sl none L.length (enL L), .sl none lost.length (enL lost)] H = some (pF (cB c (P q) (S q) q g 0 L lost), H) := fun L hL s H => R4 hX hql' (by have := hL.1; omega) (fun y hy => by have := hL.2 y hy; omega) (by omega)
 have hd2 : ∀ L, aI6 l.length L → ∀ s H, Call tab s vC [c.v, .int .i64 (q : Int), g.v, .int .i64 0, .sl none L.length (enL L), .sl none lost.length (enL lost)] H = some (pF (cB c (P q) (S q) q g 0 L lost), H) := fun L hL s H => aLk hX.net hX.slt hX.prt (by rw [hX.net.wi]; have := hX.net.toNet.eb; omega) hql' (hX.slen q) (by have := hL.1; omega) (fun y hy => by have := hL.2 y hy; omega) (by omega)
 have hsm : ∀ L s H, Call tab s eL [.sl none (cB c (P q) (S q) q g 0 L lost).1.length (enL (cB c (P q) (S q) q g 0 L lost).1), .sl none (cB c (P q) (S q) q g 0 L lost).1.length (enL (cB c (P q) (S q) q g 0 L lost).1)] H = some (.bool true, H) := fun L s H => K7 (by have := G9 (c := c) (l := P q) (m := S q) (p := q) (g := g) (ppm := 0) (says := L) (lost := lost); have := hX.slen q; omega) s9
 unfold pF at hd1 hd2
 unfold Guard.v Config.v at *
 ((first | refine aC ?_ | skip); refine bE (cf := dV) rfl rfl rfl rfl ?_; unfold dV; dsimp only [aA, Nat.reduceAdd, Nat.zero_add])
 repeat' (first | refine aF ?_ | refine yc ?_ (ha := by first | exact oO | exact hri _ _ | exact hM | assumption) | refine sG (fun _ => ?_) fun _ => ?_ | refine aG ?_ | refine sH (fun _ => ?_) fun _ => ?_ | fail)
 refine aTb (hse _ _) fun L hL => ?_
 have hd1 := hd1 L hL
 have hd2 := hd2 L hL
 have hsm := hsm L
 unfold aI5
 generalize cB c (P q) (S q) q g 0 L lost = Q at *
 repeat' (first | refine aF ?_ | refine yc ?_ (ha := by first | exact hd1 _ _ | exact hd2 _ _ | exact hsm _ _ | assumption) | refine sG (fun _ => ?_) fun _ => ?_ | refine aG ?_ | refine sH (fun _ => ?_) fun _ => ?_ | fail)
 all_goals first | rfl | (rw [beq_self_eq_true])
end Go.Abs
