/- A part of the proof of RowAirFits, RowAirHeard, RowAirOrder, RowAirLost: lemmas alone, without conditions. -/
import Derived.Test.YtpcnjabfiahhhaaGreatDoorK35
import Derived.Test.YtpcnjabfiahhhaaGreatDoorK34
import Derived.Test.YtpcnjabfiahhhaaGreatDoorK32
set_option linter.all false
namespace Go.Abs
open Go.Proofs.YtpcnjabfiahhhaaGreatDoor
attribute [local irreducible] enL R RR dF cZ lV dE dG mP apply dB eI aX aZ cO aW fB aP aN cK bN gL cA V.rb V.rbL
theorem aR2 {β : Type} {s : Option Nat} {rs : List eJ} {e0 e1 e2 : aQ} {d : Nat} {xs : List X} {κ : aQ × aB → Option β} {Y : Option β → Prop} {H : aB} {b : List UInt8} (hx : dB xs e0 = some ([.sl none b.length (enL b)], e1) := by exact tHX) (hd : aX e1 d = e2 := by exact oX) (hc : (tab.pu tU || gK e1) = true := by exact rfl) (hb : b.length ≤ 1000000)
 (k : ∀ t : Int, Ev (RR tab s rs ((d, .tup [(yU b).v, .int .i64 (C0 b), .int .i64 t]) :: e2) H κ) Y) : Ev (RR tab s ((some d, none, .call tU xs 0) :: rs) e0 H κ) Y := by
 obtain ⟨t, c⟩ := (aQ6 (s := s) (H := H) hb).so
 exact cI (k t) hx c hc hd
theorem aKp {s : Option Nat} {H : aB} {b : List UInt8} (hb : b.length ≤ 1000000) : Call tab s o9 [.sl none b.length (enL b)] H = some (.tup [(yU b).v, .int .i64 (C0 b)], H) := by
 ((first | refine aC ?_ | skip); refine bE (cf := uH) rfl rfl rfl rfl ?_; unfold uH; dsimp only [aA, Nat.reduceAdd, Nat.zero_add])
 repeat' (first | refine aF ?_ | refine yc ?_ | refine sG (fun _ => ?_) fun _ => ?_ | refine aG ?_ | refine sH (fun _ => ?_) fun _ => ?_ | fail)
 refine aR2 (hb := hb) (k := fun t => ?_)
 unfold Frame.v
 repeat' (first | refine aF ?_ | refine yc ?_ | refine sG (fun _ => ?_) fun _ => ?_ | refine aG ?_ | refine sH (fun _ => ?_) fun _ => ?_ | fail)
 rfl
end Go.Abs
namespace Go.Abs
open Go.Proofs.YtpcnjabfiahhhaaGreatDoor
attribute [local irreducible] enL R RR dF cZ lV dE dG mP apply dB eI aX aZ cO aW fB aP aN cK bN gL cA V.rb V.rbL
abbrev oP (g : Guard) (at' arr : Int) : Prop := g.on = true ∧ Tm g.start ∧ Tm at' ∧ Tm arr
def L5 (g : Guard) (at' ppm arr : Int) : Int := if oP g at' arr then IntKind.i64.wrap (arr - g.start - real at' ppm) else 0
section
variable {s : Option Nat} {H : aB} {g : Guard} {a ppm w arr : Int}
set_option maxHeartbeats 1000000 in
theorem aU9 : Call tab s D7 [g.v, .int .i64 a, .int .i64 ppm, .int .i64 arr] H = some (.tup [.int .i64 (L5 g a ppm arr), .bool (decide (oP g a arr))], H) := by
 unfold L5
 by_cases h : oP g a arr
 ·obtain ⟨h1, h2, h3, h4⟩ := h
  rw [if_pos ⟨h1, h2, h3, h4⟩, decide_eq_true (show oP g a arr from ⟨h1, h2, h3, h4⟩)]
  have k2 : decide (Tm g.start) = true := decide_eq_true h2
  have k3 : decide (Tm a) = true := decide_eq_true h3
  have k4 : decide (Tm arr) = true := decide_eq_true h4
  have hw : IntKind.i64.wrap (arr - g.start) = arr - g.start := IntWalk.i64_in _ (by omega)
  unfold Guard.v
  rw [h1]
  ((first | refine aC ?_ | skip); refine bE (cf := iN) rfl rfl rfl rfl ?_; unfold iN; dsimp only [aA, Nat.reduceAdd, Nat.zero_add])
  repeat' (first | refine aF ?_ | refine yc ?_ (ha := by first | exact K2 | exact aHp | assumption) | refine sG (fun _ => ?_) fun _ => ?_ | refine aG ?_ | refine sH (fun _ => ?_) fun _ => ?_ | fail)
  rfl
 ·rw [if_neg h, decide_eq_false h]
  unfold Guard.v
  cases h1 : g.on
  ·((first | refine aC ?_ | skip); refine bE (cf := iN) rfl rfl rfl rfl ?_; unfold iN; dsimp only [aA, Nat.reduceAdd, Nat.zero_add])
   repeat' (first | refine aF ?_ | refine yc ?_ (ha := by first | exact K2 | exact aHp | assumption) | refine sG (fun _ => ?_) fun _ => ?_ | refine aG ?_ | refine sH (fun _ => ?_) fun _ => ?_ | fail)
   rfl
  ·((first | refine aC ?_ | skip); refine bE (cf := iN) rfl rfl rfl rfl ?_; unfold iN; dsimp only [aA, Nat.reduceAdd, Nat.zero_add])
   repeat' (first | refine aF ?_ | refine yc ?_ (ha := by first | exact K2 | exact aHp | assumption) | refine sG (fun _ => ?_) fun _ => ?_ | refine aG ?_ | refine sH (fun _ => ?_) fun _ => ?_ | fail)
   all_goals first | rfl | (exfalso; exact h ⟨h1, by assumption, by assumption, by assumption⟩)
set_option maxHeartbeats 1000000 in
theorem aQ3 : Call tab s D3 [g.v, .int .i64 a, .int .i64 ppm, .int .i64 arr] H = some (.tup [.int .i64 (L5 g a ppm arr), .bool (decide (oP g a arr))], H) := by
 unfold L5
 by_cases h : oP g a arr
 ·obtain ⟨h1, h2, h3, h4⟩ := h
  rw [if_pos ⟨h1, h2, h3, h4⟩, decide_eq_true (show oP g a arr from ⟨h1, h2, h3, h4⟩)]
  have k2 : decide (Tm g.start) = true := decide_eq_true h2
  have k3 : decide (Tm a) = true := decide_eq_true h3
  have k4 : decide (Tm arr) = true := decide_eq_true h4
  have hw : IntKind.i64.wrap (arr - g.start) = arr - g.start := IntWalk.i64_in _ (by omega)
  unfold Guard.v
  rw [h1]
  ((first | refine aC ?_ | skip); refine bE (cf := iI) rfl rfl rfl rfl ?_; unfold iI; dsimp only [aA, Nat.reduceAdd, Nat.zero_add])
  repeat' (first | refine aF ?_ | refine yc ?_ (ha := by first | exact gF | exact aE6 | assumption) | refine sG (fun _ => ?_) fun _ => ?_ | refine aG ?_ | refine sH (fun _ => ?_) fun _ => ?_ | fail)
  rfl
 ·rw [if_neg h, decide_eq_false h]
  unfold Guard.v
  cases h1 : g.on
  ·((first | refine aC ?_ | skip); refine bE (cf := iI) rfl rfl rfl rfl ?_; unfold iI; dsimp only [aA, Nat.reduceAdd, Nat.zero_add])
   repeat' (first | refine aF ?_ | refine yc ?_ (ha := by first | exact gF | exact aE6 | assumption) | refine sG (fun _ => ?_) fun _ => ?_ | refine aG ?_ | refine sH (fun _ => ?_) fun _ => ?_ | fail)
   rfl
  ·((first | refine aC ?_ | skip); refine bE (cf := iI) rfl rfl rfl rfl ?_; unfold iI; dsimp only [aA, Nat.reduceAdd, Nat.zero_add])
   repeat' (first | refine aF ?_ | refine yc ?_ (ha := by first | exact gF | exact aE6 | assumption) | refine sG (fun _ => ?_) fun _ => ?_ | refine aG ?_ | refine sH (fun _ => ?_) fun _ => ?_ | fail)
   all_goals first | rfl | (exfalso; exact h ⟨h1, by assumption, by assumption, by assumption⟩)
def X9 (g : Guard) (a ppm w arr : Int) : Bool := !g.on || decide (oP g a arr ∧ 0 ≤ w ∧ -w ≤ L5 g a ppm arr ∧ L5 g a ppm arr ≤ w)
theorem aUa (hw : 0 ≤ w ∧ w ≤ 1000000000000) : Call tab s D5 [g.v, .int .i64 a, .int .i64 ppm, .int .i64 w, .int .i64 arr] H = some (.bool (X9 g a ppm w arr), H) := by
 obtain ⟨on, gs, ga⟩ := g
 have hl := fun s H => aU9 (s := s) (H := H) (g := ⟨on, gs, ga⟩) (a := a) (ppm := ppm) (arr := arr)
 have hn : IntKind.i64.wrap (0 - w) = -w := by rw [IntWalk.i64_in _ (by omega)]; omega
 unfold X9
 generalize L5 ⟨on, gs, ga⟩ a ppm arr = q at *
 unfold Guard.v at *
 cases on
 ·((first | refine aC ?_ | skip); refine bE (cf := iJ) rfl rfl rfl rfl ?_; unfold iJ; dsimp only [aA, Nat.reduceAdd, Nat.zero_add])
  repeat' (first | refine aF ?_ | refine yc ?_ | refine sG (fun _ => ?_) fun _ => ?_ | refine aG ?_ | refine sH (fun _ => ?_) fun _ => ?_ | fail)
  rfl
 ·by_cases h : oP ⟨true, gs, ga⟩ a arr
  ·rw [show decide (oP ⟨true, gs, ga⟩ a arr ∧ 0 ≤ w ∧ -w ≤ q ∧ q ≤ w) = decide (0 ≤ w ∧ -w ≤ q ∧ q ≤ w) from decide_eq_decide.2 ⟨fun k => k.2, fun k => ⟨h, k⟩⟩]
   rw [decide_eq_true h] at hl
   ((first | refine aC ?_ | skip); refine bE (cf := iJ) rfl rfl rfl rfl ?_; unfold iJ; dsimp only [aA, Nat.reduceAdd, Nat.zero_add])
   repeat' (first | refine aF ?_ | refine yc ?_ (ha := by first | exact hl _ _ | assumption) | refine sG (fun _ => ?_) fun _ => ?_ | refine aG ?_ | refine sH (fun _ => ?_) fun _ => ?_ | fail)
   all_goals first | rfl | (first | (with_reducible rfl) | (simp only [Option.some.injEq, Prod.mk.injEq, V.bool.injEq, V.tup.injEq, V.int.injEq, List.cons.injEq, and_true, true_and]; first | done | (rw [Bool.eq_iff_iff]; simp only [decide_eq_true_eq, Bool.false_eq_true, Bool.true_eq_false, false_iff, iff_false, true_iff, iff_true, Bool.not_eq_true, decide_eq_false_iff_not, Bool.and_eq_true, Bool.or_eq_true]; omega) | omega)) | (simp only [Bool.not_true, Bool.false_or]; first | (with_reducible rfl) | (simp only [Option.some.injEq, Prod.mk.injEq, V.bool.injEq, V.tup.injEq, V.int.injEq, List.cons.injEq, and_true, true_and]; first | done | (rw [Bool.eq_iff_iff]; simp only [decide_eq_true_eq, Bool.false_eq_true, Bool.true_eq_false, false_iff, iff_false, true_iff, iff_true, Bool.not_eq_true, decide_eq_false_iff_not, Bool.and_eq_true, Bool.or_eq_true]; omega) | omega))
  ·rw [show decide (oP ⟨true, gs, ga⟩ a arr ∧ 0 ≤ w ∧ -w ≤ q ∧ q ≤ w) = false from decide_eq_false (fun k => h k.1)]
   rw [decide_eq_false h] at hl
   ((first | refine aC ?_ | skip); refine bE (cf := iJ) rfl rfl rfl rfl ?_; unfold iJ; dsimp only [aA, Nat.reduceAdd, Nat.zero_add])
   repeat' (first | refine aF ?_ | refine yc ?_ (ha := by first | exact hl _ _ | assumption) | refine sG (fun _ => ?_) fun _ => ?_ | refine aG ?_ | refine sH (fun _ => ?_) fun _ => ?_ | fail)
   rfl
theorem aQ4 (hw : 0 ≤ w ∧ w ≤ 1000000000000) : Call tab s D2 [g.v, .int .i64 a, .int .i64 ppm, .int .i64 w, .int .i64 arr] H = some (.bool (X9 g a ppm w arr), H) := by
 obtain ⟨on, gs, ga⟩ := g
 have hl := fun s H => aQ3 (s := s) (H := H) (g := ⟨on, gs, ga⟩) (a := a) (ppm := ppm) (arr := arr)
 have hn : IntKind.i64.wrap (0 - w) = -w := by rw [IntWalk.i64_in _ (by omega)]; omega
 unfold X9
 generalize L5 ⟨on, gs, ga⟩ a ppm arr = q at *
 unfold Guard.v at *
 cases on
 ·((first | refine aC ?_ | skip); refine bE (cf := iH) rfl rfl rfl rfl ?_; unfold iH; dsimp only [aA, Nat.reduceAdd, Nat.zero_add])
  repeat' (first | refine aF ?_ | refine yc ?_ | refine sG (fun _ => ?_) fun _ => ?_ | refine aG ?_ | refine sH (fun _ => ?_) fun _ => ?_ | fail)
  rfl
 ·by_cases h : oP ⟨true, gs, ga⟩ a arr
  ·rw [show decide (oP ⟨true, gs, ga⟩ a arr ∧ 0 ≤ w ∧ -w ≤ q ∧ q ≤ w) = decide (0 ≤ w ∧ -w ≤ q ∧ q ≤ w) from decide_eq_decide.2 ⟨fun k => k.2, fun k => ⟨h, k⟩⟩]
   rw [decide_eq_true h] at hl
   ((first | refine aC ?_ | skip); refine bE (cf := iH) rfl rfl rfl rfl ?_; unfold iH; dsimp only [aA, Nat.reduceAdd, Nat.zero_add])
   repeat' (first | refine aF ?_ | refine yc ?_ (ha := by first | exact hl _ _ | assumption) | refine sG (fun _ => ?_) fun _ => ?_ | refine aG ?_ | refine sH (fun _ => ?_) fun _ => ?_ | fail)
   all_goals first | rfl | (first | (with_reducible rfl) | (simp only [Option.some.injEq, Prod.mk.injEq, V.bool.injEq, V.tup.injEq, V.int.injEq, List.cons.injEq, and_true, true_and]; first | done | (rw [Bool.eq_iff_iff]; simp only [decide_eq_true_eq, Bool.false_eq_true, Bool.true_eq_false, false_iff, iff_false, true_iff, iff_true, Bool.not_eq_true, decide_eq_false_iff_not, Bool.and_eq_true, Bool.or_eq_true]; omega) | omega)) | (simp only [Bool.not_true, Bool.false_or]; first | (with_reducible rfl) | (simp only [Option.some.injEq, Prod.mk.injEq, V.bool.injEq, V.tup.injEq, V.int.injEq, List.cons.injEq, and_true, true_and]; first | done | (rw [Bool.eq_iff_iff]; simp only [decide_eq_true_eq, Bool.false_eq_true, Bool.true_eq_false, false_iff, iff_false, true_iff, iff_true, Bool.not_eq_true, decide_eq_false_iff_not, Bool.and_eq_true, Bool.or_eq_true]; omega) | omega))
  ·rw [show decide (oP ⟨true, gs, ga⟩ a arr ∧ 0 ≤ w ∧ -w ≤ q ∧ q ≤ w) = false from decide_eq_false (fun k => h k.1)]
   rw [decide_eq_false h] at hl
   ((first | refine aC ?_ | skip); refine bE (cf := iH) rfl rfl rfl rfl ?_; unfold iH; dsimp only [aA, Nat.reduceAdd, Nat.zero_add])
   repeat' (first | refine aF ?_ | refine yc ?_ (ha := by first | exact hl _ _ | assumption) | refine sG (fun _ => ?_) fun _ => ?_ | refine aG ?_ | refine sH (fun _ => ?_) fun _ => ?_ | fail)
   rfl
end
def inB (l : List Int) (x : Int) : Bool := l.any (· == x)
theorem aN0 {l : List Int} {x y : Int} {i : Nat} (h : l[i]? = some y) : inB (l.drop i) x = (y == x || inB (l.drop (i + 1)) x) := by
 rw [oH h]; rfl
theorem aRl {s : Option Nat} {H : aB} {l : List Int} {x : Int} (hl : l.length ≤ 140737488355328) : Call tab s J8 [.sl none l.length (enL l), .int .i64 x] H = some (.bool (inB l x), H) := by
 ((first | refine aC ?_ | skip); refine bE (cf := H9) rfl rfl rfl rfl ?_; unfold H9; dsimp only [aA, Nat.reduceAdd, Nat.zero_add])
 repeat' (first | refine aF ?_ | refine yc ?_ | refine sG (fun _ => ?_) fun _ => ?_ | refine aG ?_ | refine sH (fun _ => ?_) fun _ => ?_ | fail)
 refine oK l.length (fun i (_ : Unit) => [(5, .int .i64 i)]) (fun _ _ => _) (fun i _ => inB l x = inB (l.drop i) x) ?_ ?_ () rfl
 ·intro i _ hi hq ih
  obtain ⟨y, hy⟩ := oZ hi
  rw [aN0 hy] at hq
  have hil : (i : Int) < (l.length : Int) := by omega
  have hw : IntKind.i64.wrap ((i : Int) + 1) = ((i + 1 : Nat) : Int) := IntWalk.i64_in _ (by omega)
  by_cases h : y = x
  ·rw [beq_iff_eq.2 h, Bool.true_or] at hq
   refine aJ (by dsimp only [eT, lk, Nat.reduceBEq, cond_true, cond_false, Option.getD_some, Option.getD_none]; first | done | exact rfl) ?_; refine aE ?_
   unfold tP
   repeat' (first | refine aF ?_ | refine yc ?_ | refine sG (fun _ => ?_) fun _ => ?_ | refine aG ?_ | refine sH (fun _ => ?_) fun _ => ?_ | fail)
   rw [hq]
  ·rw [show (y == x) = false by simpa using h, Bool.false_or] at hq
   refine aJ (by dsimp only [eT, lk, Nat.reduceBEq, cond_true, cond_false, Option.getD_some, Option.getD_none]; first | done | exact rfl) ?_; refine aE ?_
   unfold tP
   repeat' (first | refine aF ?_ | refine yc ?_ | refine sG (fun _ => ?_) fun _ => ?_ | refine aG ?_ | refine sH (fun _ => ?_) fun _ => ?_ | fail)
   refine cV ?_
   exact ih () hq
 ·intro _ hq
  rw [List.drop_length] at hq
  refine aJ (by dsimp only [eT, lk, Nat.reduceBEq, cond_true, cond_false, Option.getD_some, Option.getD_none]; first | done | exact rfl) ?_; refine aE ?_
  unfold tP
  repeat' (first | refine aF ?_ | refine yc ?_ | refine sG (fun _ => ?_) fun _ => ?_ | refine aG ?_ | refine sH (fun _ => ?_) fun _ => ?_ | fail)
  rw [hq]; rfl
theorem aQ5 {s : Option Nat} {H : aB} {l : List Int} {x : Int} (hl : l.length ≤ 140737488355328) : Call tab s iQ [.sl none l.length (enL l), .int .i64 x] H = some (.int .i64 (yS (· == x) l 0), H) := by
 ((first | refine aC ?_ | skip); refine bE (cf := iL) rfl rfl rfl rfl ?_; unfold iL; dsimp only [aA, Nat.reduceAdd, Nat.zero_add])
 repeat' (first | refine aF ?_ | refine yc ?_ | refine sG (fun _ => ?_) fun _ => ?_ | refine aG ?_ | refine sH (fun _ => ?_) fun _ => ?_ | fail)
 refine oK l.length (fun i (_ : Unit) => [(8, .int .i64 i)]) (fun _ _ => _) (fun i _ => yS (· == x) l 0 = yS (· == x) (l.drop i) i) ?_ ?_ () rfl
 ·intro i _ hi hq ih
  obtain ⟨y, hy⟩ := oZ hi
  rw [oH hy] at hq
  have hil : (i : Int) < (l.length : Int) := by omega
  have hw : IntKind.i64.wrap ((i : Int) + 1) = ((i + 1 : Nat) : Int) := IntWalk.i64_in _ (by omega)
  by_cases h : x = y
  ·rw [rH (p := (· == x)) (beq_iff_eq.2 h.symm)] at hq
   refine aJ (by dsimp only [eT, lk, Nat.reduceBEq, cond_true, cond_false, Option.getD_some, Option.getD_none]; first | done | exact rfl) ?_; refine aE ?_
   unfold eB
   repeat' (first | refine aF ?_ | refine yc ?_ | refine sG (fun _ => ?_) fun _ => ?_ | refine aG ?_ | refine sH (fun _ => ?_) fun _ => ?_ | fail)
   rw [hq]
  ·rw [wO (p := (· == x)) (by simpa using fun e => h e.symm)] at hq
   refine aJ (by dsimp only [eT, lk, Nat.reduceBEq, cond_true, cond_false, Option.getD_some, Option.getD_none]; first | done | exact rfl) ?_; refine aE ?_
   unfold eB
   repeat' (first | refine aF ?_ | refine yc ?_ | refine sG (fun _ => ?_) fun _ => ?_ | refine aG ?_ | refine sH (fun _ => ?_) fun _ => ?_ | fail)
   refine cV ?_
   exact ih () hq
 ·intro _ hq
  rw [List.drop_length] at hq
  refine aJ (by dsimp only [eT, lk, Nat.reduceBEq, cond_true, cond_false, Option.getD_some, Option.getD_none]; first | done | exact rfl) ?_; refine aE ?_
  unfold eB
  repeat' (first | refine aF ?_ | refine yc ?_ | refine sG (fun _ => ?_) fun _ => ?_ | refine aG ?_ | refine sH (fun _ => ?_) fun _ => ?_ | fail)
  rw [hq]; rfl
theorem aN1 {x : Int} : ∀ (l : List Int) (n : Nat), decide (0 ≤ yS (· == x) l n) = inB l x
 | [], _ => rfl
 | y :: l, n => by
   by_cases h : y = x
   ·rw [rH (p := (· == x)) (beq_iff_eq.2 h), show inB (y :: l) x = true by simp [inB, h]]
    exact decide_eq_true (by omega)
   ·rw [wO (p := (· == x)) (by simpa using h), aN1 l (n + 1)]
    simp [inB, h]
theorem aH5 {s : Option Nat} {H : aB} {l : List Int} {x : Int} (hl : l.length ≤ 140737488355328) : Call tab s lW [.sl none l.length (enL l), .int .i64 x] H = some (.bool (inB l x), H) := by
 have hi := fun s H => aQ5 (s := s) (H := H) (x := x) hl
 rw [← aN1 l 0]
 ((first | refine aC ?_ | skip); refine bE (cf := fR) rfl rfl rfl rfl ?_; unfold fR; dsimp only [aA, Nat.reduceAdd, Nat.zero_add])
 repeat' (first | refine aF ?_ | refine yc ?_ (ha := by first | exact hi _ _ | assumption) | refine sG (fun _ => ?_) fun _ => ?_ | refine aG ?_ | refine sH (fun _ => ?_) fun _ => ?_ | fail)
 rfl
end Go.Abs
namespace Go.Abs
open Go.Proofs.YtpcnjabfiahhhaaGreatDoor
def yW (c : Config) (l : List Int) : Bool := decide (l.length = c.parts.length) && l.all fun x => decide (0 ≤ x ∧ x ≤ c.ages + 1)
def F6 (c : Config) (l : List Port) (m : List Slot) (p i : Int) (f : Frame) : Bool :=
 if 0 ≤ i ∧ i < m.length then
  if f.part = p ∧ f.node = (m.getD i.toNat default).node ∧ (f.kind = (m.getD i.toNat default).kind ∨ f.kind = 1 ∧ (m.getD i.toNat default).kind = 2) then
   if f.kind = 1 then true
   else if f.kind = 2 then yW c f.ages
   else if f.kind = 3 then decide (f.link = G0 l (m.getD i.toNat default).node)
   else if f.kind = 4 then decide (f.link = G0 l (m.getD i.toNat default).node) && yW c f.ages
   else decide (f.link = G0 l (m.getD i.toNat default).node ∧ 0 ≤ f.frm ∧ f.frm < c.parts.length ∧ 0 ≤ f.to ∧ f.to < c.parts.length ∧ ¬ f.frm = f.to)
  else false
 else false
def slot0 : Slot := ⟨0, 0, 0⟩
attribute [local irreducible] enL R RR dF cZ lV dE dG mP apply dB eI aX aZ cO aW fB aP aN cK bN gL cA V.rb V.rbL
theorem aKv {s : Option Nat} {H : aB} {v : View} {n : Nat} {x : Slot} (hl : v.slots.length ≤ 1000) (hx : v.slots[n]? = some x) : Call tab s oV [v.v, .int .i64 (n : Int)] H = some (.tup [x.v, .bool true], H) := by
 have hn : (n : Int) < (v.slots.length : Int) := by have := (List.getElem?_eq_some_iff.1 hx).1; omega
 unfold View.v Slot.v
 ((first | refine aC ?_ | skip); refine bE (cf := dN) rfl rfl rfl rfl ?_; unfold dN; dsimp only [aA, Nat.reduceAdd, Nat.zero_add])
 repeat' (first | refine aF ?_ | refine yc ?_ | refine sG (fun _ => ?_) fun _ => ?_ | refine aG ?_ | refine sH (fun _ => ?_) fun _ => ?_ | fail)
 rfl
theorem aKw {s : Option Nat} {H : aB} {v : View} {i : Int} (hl : v.slots.length ≤ 1000) (hi : ¬ (0 ≤ i ∧ i < v.slots.length)) : Call tab s oV [v.v, .int .i64 i] H = some (.tup [slot0.v, .bool false], H) := by
 unfold View.v Slot.v slot0
 by_cases h : i < 0
 ·((first | refine aC ?_ | skip); refine bE (cf := dN) rfl rfl rfl rfl ?_; unfold dN; dsimp only [aA, Nat.reduceAdd, Nat.zero_add])
  repeat' (first | refine aF ?_ | refine yc ?_ | refine sG (fun _ => ?_) fun _ => ?_ | refine aG ?_ | refine sH (fun _ => ?_) fun _ => ?_ | fail)
  rfl
 ·have h2 : (v.slots.length : Int) ≤ i := by omega
  ((first | refine aC ?_ | skip); refine bE (cf := dN) rfl rfl rfl rfl ?_; unfold dN; dsimp only [aA, Nat.reduceAdd, Nat.zero_add])
  repeat' (first | refine aF ?_ | refine yc ?_ | refine sG (fun _ => ?_) fun _ => ?_ | refine aG ?_ | refine sH (fun _ => ?_) fun _ => ?_ | fail)
  rfl
theorem aOr {s : Option Nat} {H : aB} {f : FuncId} {caps : List V} {p : Int → Bool} {l : List Int} (hr : V.rbL 0 caps = false) (hrl : V.rbL H.length caps = true) (hl : l.length ≤ 140737488355328) (hp : ∀ x ∈ l, Call tab (some H.length) f ([.int .i64 x] ++ caps.map V.dis1) H = some (.bool (p x), H)) (hpu : tab.pu f = true) :
 Call tab s lG [.sl none l.length (enL l), .fn f caps] H = some (.int .i64 (yS p l 0), H) := by
 have hb : V.rbL 0 [.sl none l.length (enL l), .fn f caps] = false := by simp [V.rbL, V.rb, hr, fI]
 have hrf : V.rb H.length (.fn f caps) = true := by simp only [V.rb, hrl]
 ((first | refine aC ?_ | skip); refine z9 (cf := fM) rfl rfl rfl rfl hb ?_; unfold fM; dsimp only [aA, Nat.reduceAdd, Nat.zero_add])
 repeat' (first | refine aF ?_ | refine yc ?_ | refine sG (fun _ => ?_) fun _ => ?_ | refine aG ?_ | refine sH (fun _ => ?_) fun _ => ?_ | fail)
 refine oK l.length (fun i (_ : Unit) => [(8, .int .i64 i)]) (fun _ _ => H) (fun i _ => yS p l 0 = yS p (l.drop i) i) ?_ ?_ () rfl
 ·intro i _ hi hq ih
  obtain ⟨x, hx⟩ := oZ hi
  have hd := hp x (List.mem_of_getElem? hx)
  rw [oH hx] at hq
  have hw : IntKind.i64.wrap ((i : Int) + 1) = ((i + 1 : Nat) : Int) := IntWalk.i64_in _ (by omega)
  have hil : (i : Int) < (l.length : Int) := by omega
  cases hb : p x
  ·rw [wO hb] at hq
   rw [hb] at hd
   refine aJ (by dsimp only [eT, lk, Nat.reduceBEq, cond_true, cond_false, Option.getD_some, Option.getD_none]; first | done | exact rfl) ?_; refine aE ?_
   unfold dA
   repeat' (first | refine aF ?_ | refine yc ?_ (ha := by first | exact hd | assumption) | (show zv; refine kF ?_ (ha := by first | exact hd | assumption)) | (show zV; refine y_cav0 ?_ (ha := by first | exact hd | assumption)) | refine sG (fun _ => ?_) fun _ => ?_ | refine aG ?_ | refine sH (fun _ => ?_) fun _ => ?_ | fail)
   refine cV ?_
   exact ih () hq
  ·rw [rH hb] at hq
   rw [hb] at hd
   refine aJ (by dsimp only [eT, lk, Nat.reduceBEq, cond_true, cond_false, Option.getD_some, Option.getD_none]; first | done | exact rfl) ?_; refine aE ?_
   unfold dA
   repeat' (first | refine aF ?_ | refine yc ?_ (ha := by first | exact hd | assumption) | (show zv; refine kF ?_ (ha := by first | exact hd | assumption)) | (show zV; refine y_cav0 ?_ (ha := by first | exact hd | assumption)) | refine sG (fun _ => ?_) fun _ => ?_ | refine aG ?_ | refine sH (fun _ => ?_) fun _ => ?_ | fail)
   rw [hq]
 ·intro _ hq
  rw [List.drop_length] at hq
  refine aJ (by dsimp only [eT, lk, Nat.reduceBEq, cond_true, cond_false, Option.getD_some, Option.getD_none]; first | done | exact rfl) ?_; refine aE ?_
  unfold dA
  repeat' (first | refine aF ?_ | refine yc ?_ | refine sG (fun _ => ?_) fun _ => ?_ | refine aG ?_ | refine sH (fun _ => ?_) fun _ => ?_ | fail)
  rw [hq]; rfl
theorem aEm {s : Option Nat} {H : aB} {f : FuncId} {caps : List V} {p : Int → Bool} {l : List Int} (hr : V.rbL 0 caps = false) (hrl : V.rbL H.length caps = true) (hc : caps.map V.dis1 = caps) (hl : l.length ≤ 140737488355328) (hp : ∀ (x : Int) s, x ∈ l → Call tab s f ([.int .i64 x] ++ caps.map V.dis1) H = some (.bool (p x), H)) (hpu : tab.pu f = true) :
 Call tab s iE [.sl none l.length (enL l), .fn f caps] H = some (.bool (l.any p), H) := by
 have hb : V.rbL 0 [.sl none l.length (enL l), .fn f caps] = false := by simp [V.rbL, V.rb, hr, fI]
 have hrf : V.rb H.length (.fn f caps) = true := by simp only [V.rb, hrl]
 have hd : Dis (V.fn f caps) (.fn f caps) := inferInstance
 have hi := fun s => aOr (s := s) hr hrl hl (fun x hx => hp x _ hx) hpu
 ((first | refine aC ?_ | skip); refine z9 (cf := eH) rfl rfl rfl rfl hb ?_; unfold eH; dsimp only [aA, Nat.reduceAdd, Nat.zero_add])
 repeat' (first | refine aF ?_ | refine yc ?_ (ha := by first | exact hi _ | assumption) | (show zv; refine kF ?_ (ha := by first | exact hi _ | assumption)) | (show zV; refine y_cav0 ?_ (ha := by first | exact hi _ | assumption)) | refine sG (fun _ => ?_) fun _ => ?_ | refine aG ?_ | refine sH (fun _ => ?_) fun _ => ?_ | fail)
 rw [aHx]
theorem aKx {s : Option Nat} {H : aB} {v : View} {x : Int} {i : Nat} (hi : H[i]? = some [.sl none v.c.parts.length (enL v.c.parts), .sl none v.c.links.length (enL v.c.links), .int .i64 v.c.cycle, .int .i64 v.c.lead, .int .i64 v.c.slot, .int .i64 v.c.window, .int .i64 v.c.drift, .int .i64 v.c.rate, .int .i64 v.c.ages, .int .i64 v.c.lost, .int .i64 v.c.listen, .int .i64 v.c.span, .int .i64 v.c.room, .int .i64 v.part, .sl none v.slots.length (enL v.slots), .sl none v.ports.length (enL v.ports), .int .i64 v.edge, .int .i64 v.near, .int .i64 v.slew, .int .i64 v.step, .int .i64 v.jump, .int .i64 v.tick, .int .i64 v.gone]) :
 Call tab s D8 [.int .i64 x, .ptr i 0] H = some (.bool (!decide (0 ≤ x ∧ x ≤ v.gone)), H) := by
 have hb : V.rbL 0 [.int .i64 x, .ptr i 0] = false := by simp [V.rbL, V.rb]
 ((first | refine aC ?_ | skip); refine z9 (cf := yE) rfl rfl rfl rfl hb ?_; unfold yE; dsimp only [aA, Nat.reduceAdd, Nat.zero_add])
 repeat' (first | refine aF ?_ | refine yc ?_ | refine sG (fun _ => ?_) fun _ => ?_ | refine aG ?_ | refine sH (fun _ => ?_) fun _ => ?_ | fail)
 all_goals (simp only [Option.some.injEq, Prod.mk.injEq, V.bool.injEq, and_true]; rw [Bool.eq_iff_iff]; simp only [decide_eq_true_eq, Bool.not_eq_true', decide_eq_false_iff_not, Bool.false_eq_true, Bool.true_eq_false, false_iff, true_iff, iff_true, iff_false]; omega)
theorem aOs {s : Option Nat} {H : aB} {v : View} {l : List Int} (hl : l.length ≤ 1000000) :
 Call tab s aA1 [v.v, .sl none l.length (enL l)] H = some (.bool (decide (l.length = v.c.parts.length) && l.all fun x => decide (0 ≤ x ∧ x ≤ v.gone)), H) := by
 by_cases h : l.length = v.c.parts.length
 ·have h' : (l.length : Int) = (v.c.parts.length : Int) := by omega
  rw [decide_eq_true h, Bool.true_and, List.all_eq_not_any_not]
  unfold View.v
  ((first | refine aC ?_ | skip); refine bE (cf := sK) rfl rfl rfl rfl ?_; unfold sK; dsimp only [aA, Nat.reduceAdd, Nat.zero_add])
  repeat' (first | refine aF ?_ | refine yc ?_ | refine sG (fun _ => ?_) fun _ => ?_ | refine aG ?_ | refine sH (fun _ => ?_) fun _ => ?_ | fail)
  refine tF ?_ (ha := wK)
  repeat' (first | refine aF ?_ | refine yc ?_ | refine sG (fun _ => ?_) fun _ => ?_ | refine aG ?_ | refine sH (fun _ => ?_) fun _ => ?_ | fail)
  refine cI ?_ (ha := aEm (p := fun x => !decide (0 ≤ x ∧ x ≤ v.gone)) ?h1 ?h2 ?h5 (by omega) (fun x s hx => ?h3) rfl)
  case h1 => simp [V.rbL, V.rb]
  case h2 => simp [V.rbL, V.rb]
  case h5 => simp [V.dis1]
  case h3 => exact aKx (v := v) (by simp)
  repeat' (first | refine aF ?_ | refine yc ?_ | refine sG (fun _ => ?_) fun _ => ?_ | refine aG ?_ | refine sH (fun _ => ?_) fun _ => ?_ | fail)
  rfl
 ·have h' : ¬ (l.length : Int) = (v.c.parts.length : Int) := by omega
  rw [decide_eq_false h, Bool.false_and]
  unfold View.v
  ((first | refine aC ?_ | skip); refine bE (cf := sK) rfl rfl rfl rfl ?_; unfold sK; dsimp only [aA, Nat.reduceAdd, Nat.zero_add])
  repeat' (first | refine aF ?_ | refine yc ?_ | refine sG (fun _ => ?_) fun _ => ?_ | refine aG ?_ | refine sH (fun _ => ?_) fun _ => ?_ | fail)
  rfl
section
variable {c : Config} {P : Nat → List Port} {S : Nat → List Slot} {s : Option Nat} {H : aB} {p : Nat} {f : Frame}
set_option maxHeartbeats 4000000 in
theorem aRb {i : Int} (hR : SlotR P S) (hS : (S p).length ≤ 1000) (hP : (P p).length ≤ 1000) (hl : f.ages.length ≤ 1000000) :
 Call tab s m7 [(jY c P S p).v, .int .i64 i, f.v] H = some (.bool (F6 c (P p) (S p) p i f), H) := by
 unfold F6
 by_cases hi : 0 ≤ i ∧ i < (S p).length
 rotate_left
 ·rw [if_neg hi]
  have hv := fun s H => aKw (s := s) (H := H) (v := jY c P S p) (i := i) hS hi
  unfold View.v jY Frame.v slot0 Slot.v at *
  ((first | refine aC ?_ | skip); refine bE (cf := bQ) rfl rfl rfl rfl ?_; unfold bQ; dsimp only [aA, Nat.reduceAdd, Nat.zero_add])
  repeat' (first | refine aF ?_ | refine yc ?_ (ha := by first | exact hv _ _ | assumption) | refine sG (fun _ => ?_) fun _ => ?_ | refine aG ?_ | refine sH (fun _ => ?_) fun _ => ?_ | fail)
  rfl
 rw [if_pos hi]
 obtain ⟨n, rfl⟩ : ∃ n : Nat, i = n := ⟨i.toNat, by omega⟩
 obtain ⟨x, hx⟩ : ∃ x, (S p)[n]? = some x := ⟨(S p)[n]'(by omega), by rw [List.getElem?_eq_getElem]⟩
 rw [show (S p).getD (n : Int).toNat default = x by rw [Int.toNat_natCast, List.getD_eq_getElem?_getD, hx]; rfl]
 have hv := fun s H => aKv (s := s) (H := H) (v := jY c P S p) hS hx
 obtain ⟨k2, k5, kp⟩ := hR p x (List.mem_of_getElem? hx)
 have hpo := fun s H => aT5 (s := s) (H := H) (v := jY c P S p) (n := x.node) hP
 have hag := fun s H => aOs (s := s) (H := H) (v := jY c P S p) hl
 by_cases hm : f.part = p ∧ f.node = x.node ∧ (f.kind = x.kind ∨ f.kind = 1 ∧ x.kind = 2)
 rotate_left
 ·rw [if_neg hm]
  by_cases h1 : f.part = p
  ·by_cases h2 : f.node = x.node
   ·have h3 : ¬ f.kind = x.kind := fun h => hm ⟨h1, h2, .inl h⟩
    by_cases h4 : f.kind = 1
    ·have h5 : ¬ x.kind = 2 := fun h => hm ⟨h1, h2, .inr ⟨h4, h⟩⟩
     unfold View.v jY Frame.v Slot.v at *
     ((first | refine aC ?_ | skip); refine bE (cf := bQ) rfl rfl rfl rfl ?_; unfold bQ; dsimp only [aA, Nat.reduceAdd, Nat.zero_add])
     repeat' (first | refine aF ?_ | refine yc ?_ (ha := by first | exact hv _ _ | assumption) | refine sG (fun _ => ?_) fun _ => ?_ | refine aG ?_ | refine sH (fun _ => ?_) fun _ => ?_ | fail)
     rfl
    ·unfold View.v jY Frame.v Slot.v at *
     ((first | refine aC ?_ | skip); refine bE (cf := bQ) rfl rfl rfl rfl ?_; unfold bQ; dsimp only [aA, Nat.reduceAdd, Nat.zero_add])
     repeat' (first | refine aF ?_ | refine yc ?_ (ha := by first | exact hv _ _ | assumption) | refine sG (fun _ => ?_) fun _ => ?_ | refine aG ?_ | refine sH (fun _ => ?_) fun _ => ?_ | fail)
     rfl
   ·unfold View.v jY Frame.v Slot.v at *
    ((first | refine aC ?_ | skip); refine bE (cf := bQ) rfl rfl rfl rfl ?_; unfold bQ; dsimp only [aA, Nat.reduceAdd, Nat.zero_add])
    repeat' (first | refine aF ?_ | refine yc ?_ (ha := by first | exact hv _ _ | assumption) | refine sG (fun _ => ?_) fun _ => ?_ | refine aG ?_ | refine sH (fun _ => ?_) fun _ => ?_ | fail)
    rfl
  ·unfold View.v jY Frame.v Slot.v at *
   ((first | refine aC ?_ | skip); refine bE (cf := bQ) rfl rfl rfl rfl ?_; unfold bQ; dsimp only [aA, Nat.reduceAdd, Nat.zero_add])
   repeat' (first | refine aF ?_ | refine yc ?_ (ha := by first | exact hv _ _ | assumption) | refine sG (fun _ => ?_) fun _ => ?_ | refine aG ?_ | refine sH (fun _ => ?_) fun _ => ?_ | fail)
   rfl
 rw [if_pos hm]
 obtain ⟨h1, h2, h3⟩ := hm
 rw [← h2] at hpo
 have hport : ∃ (y : Port) (b : Bool), qB (P p) f.node = .tup [y.v, .bool b] ∧ (3 ≤ x.kind → b = true ∧ G0 (P p) x.node = y.link) := by
  by_cases h0 : gU (P p) f.node < 0
  ·exact ⟨_, _, aEs h0, fun h => absurd h0 (by rw [h2]; exact kp h)⟩
  ·obtain ⟨y, hy, hyl⟩ := aEt h0
   exact ⟨y, true, hy, fun _ => ⟨rfl, by rw [← h2]; exact hyl⟩⟩
 obtain ⟨y, b, hy, hb⟩ := hport
 rw [show qB (jY c P S p).ports f.node = _ from hy] at hpo
 by_cases q1 : f.kind = 1
 ·rw [if_pos q1]
  have q2 : x.kind = 2 := by omega
  unfold View.v jY Frame.v Slot.v Port.v at *
  ((first | refine aC ?_ | skip); refine bE (cf := bQ) rfl rfl rfl rfl ?_; unfold bQ; dsimp only [aA, Nat.reduceAdd, Nat.zero_add])
  repeat' (first | refine aF ?_ | refine yc ?_ (ha := by first | exact hv _ _ | exact hpo _ _ | exact hag _ _ | assumption) | refine sG (fun _ => ?_) fun _ => ?_ | refine aG ?_ | refine sH (fun _ => ?_) fun _ => ?_ | fail)
  rfl
 rw [if_neg q1]
 have q0 : f.kind = x.kind := by omega
 by_cases q2 : f.kind = 2
 ·rw [if_pos q2]
  have q3 : ¬ (3 : Int) ≤ f.kind := by omega
  unfold yW
  unfold View.v jY Frame.v Slot.v Port.v at *
  ((first | refine aC ?_ | skip); refine bE (cf := bQ) rfl rfl rfl rfl ?_; unfold bQ; dsimp only [aA, Nat.reduceAdd, Nat.zero_add])
  repeat' (first | refine aF ?_ | refine yc ?_ (ha := by first | exact hv _ _ | exact hpo _ _ | exact hag _ _ | assumption) | refine sG (fun _ => ?_) fun _ => ?_ | refine aG ?_ | refine sH (fun _ => ?_) fun _ => ?_ | fail)
  rfl
 rw [if_neg q2]
 have q3 : (3 : Int) ≤ f.kind := by omega
 obtain ⟨rfl, hyl⟩ := hb (by omega)
 rw [hyl]
 by_cases ql : f.link = y.link
 rotate_left
 ·have e : (if f.kind = 3 then decide (f.link = y.link) else if f.kind = 4 then decide (f.link = y.link) && yW c f.ages else decide (f.link = y.link ∧ 0 ≤ f.frm ∧ f.frm < c.parts.length ∧ 0 ≤ f.to ∧ f.to < c.parts.length ∧ ¬ f.frm = f.to)) = false := by simp [ql]
  rw [e]
  unfold View.v jY Frame.v Slot.v Port.v at *
  ((first | refine aC ?_ | skip); refine bE (cf := bQ) rfl rfl rfl rfl ?_; unfold bQ; dsimp only [aA, Nat.reduceAdd, Nat.zero_add])
  repeat' (first | refine aF ?_ | refine yc ?_ (ha := by first | exact hv _ _ | exact hpo _ _ | exact hag _ _ | assumption) | refine sG (fun _ => ?_) fun _ => ?_ | refine aG ?_ | refine sH (fun _ => ?_) fun _ => ?_ | fail)
  rfl
 by_cases q4 : f.kind = 3
 ·rw [if_pos q4, decide_eq_true ql]
  unfold View.v jY Frame.v Slot.v Port.v at *
  ((first | refine aC ?_ | skip); refine bE (cf := bQ) rfl rfl rfl rfl ?_; unfold bQ; dsimp only [aA, Nat.reduceAdd, Nat.zero_add])
  repeat' (first | refine aF ?_ | refine yc ?_ (ha := by first | exact hv _ _ | exact hpo _ _ | exact hag _ _ | assumption) | refine sG (fun _ => ?_) fun _ => ?_ | refine aG ?_ | refine sH (fun _ => ?_) fun _ => ?_ | fail)
  rfl
 rw [if_neg q4]
 by_cases q5 : f.kind = 4
 ·rw [if_pos q5, decide_eq_true ql, Bool.true_and]
  unfold yW
  unfold View.v jY Frame.v Slot.v Port.v at *
  ((first | refine aC ?_ | skip); refine bE (cf := bQ) rfl rfl rfl rfl ?_; unfold bQ; dsimp only [aA, Nat.reduceAdd, Nat.zero_add])
  repeat' (first | refine aF ?_ | refine yc ?_ (ha := by first | exact hv _ _ | exact hpo _ _ | exact hag _ _ | assumption) | refine sG (fun _ => ?_) fun _ => ?_ | refine aG ?_ | refine sH (fun _ => ?_) fun _ => ?_ | fail)
  rfl
 rw [if_neg q5]
 have q6 : f.kind = 5 := by omega
 simp only [ql, true_and]
 unfold View.v jY Frame.v Slot.v Port.v at *
 ((first | refine aC ?_ | skip); refine bE (cf := bQ) rfl rfl rfl rfl ?_; unfold bQ; dsimp only [aA, Nat.reduceAdd, Nat.zero_add])
 repeat' (first | refine aF ?_ | refine yc ?_ (ha := by first | exact hv _ _ | exact hpo _ _ | exact hag _ _ | assumption) | refine sG (fun _ => ?_) fun _ => ?_ | refine aG ?_ | refine sH (fun _ => ?_) fun _ => ?_ | fail)
 all_goals first | (first | (with_reducible rfl) | (simp only [Option.some.injEq, Prod.mk.injEq, V.bool.injEq, V.tup.injEq, V.int.injEq, List.cons.injEq, and_true, true_and]; first | done | (rw [Bool.eq_iff_iff]; simp only [decide_eq_true_eq, Bool.false_eq_true, Bool.true_eq_false, false_iff, iff_false, true_iff, iff_true, Bool.not_eq_true, decide_eq_false_iff_not, Bool.and_eq_true, Bool.or_eq_true]; omega) | omega)) | (by_cases k : f.frm = f.to <;> simp [*])
end
end Go.Abs
namespace Go.Abs
open Go.Proofs.YtpcnjabfiahhhaaGreatDoor
attribute [local irreducible] enL R RR dF cZ lV dE dG mP apply dB eI aX aZ cO aW fB aP aN cK bN gL cA V.rb V.rbL
section
variable {c : Config} {P : Nat → List Port} {S : Nat → List Slot} {s : Option Nat} {H : aB}
theorem aJy (h : Net c P S) : Call tab s pY [c.v] H = some (.bool true, H) := by
 have h1 := fun s H => aI4 (s := s) (H := H) h (p := 0)
 rw [decide_eq_true (show (0 : Int) ≤ 0 ∧ (0 : Int) < c.parts.length from ⟨by omega, by have := h.n1; omega⟩)] at h1
 have h2 := fun s H => aLt (s := s) (H := H) h
 unfold Config.v at *
 ((first | refine aC ?_ | skip); refine bE (cf := mU) rfl rfl rfl rfl ?_; unfold mU; dsimp only [aA, Nat.reduceAdd, Nat.zero_add])
 repeat' (first | refine aF ?_ | refine yc ?_ (ha := by first | exact h1 _ _ | exact h2 _ _ | assumption) | refine sG (fun _ => ?_) fun _ => ?_ | refine aG ?_ | refine sH (fun _ => ?_) fun _ => ?_ | fail)
 rfl
theorem aPk (h : Net c P S) : Call tab s N1 [c.v] H = some (.int .i64 (c.ages + 1), H) := by
 have h1 := fun s H => aJy (s := s) (H := H) h
 have h2 := h.ag
 have h3 := h.pb; have h4 := h.pl; have h5 := h.lo
 unfold Config.v at *
 ((first | refine aC ?_ | skip); refine bE (cf := zY) rfl rfl rfl rfl ?_; unfold zY; dsimp only [aA, Nat.reduceAdd, Nat.zero_add])
 repeat' (first | refine aF ?_ | refine yc ?_ (ha := by first | exact h1 _ _ | assumption) | refine sG (fun _ => ?_) fun _ => ?_ | refine aG ?_ | refine sH (fun _ => ?_) fun _ => ?_ | fail)
 rfl
def aC3 (c : Config) (x : Int) : Bool := decide (0 ≤ x ∧ x ≤ c.ages + 1)
theorem aM5 (h : Net c P S) {l : List Int} (hl : l.length ≤ 1000000) : Call tab s q9 [c.v, .sl none l.length (enL l)] H = some (.bool (yW c l), H) := by
 have hg := fun s H => aPk (s := s) (H := H) h
 show _ = some (V.bool (decide (l.length = c.parts.length) && l.all (aC3 c)), H)
 by_cases h1 : l.length = c.parts.length
 rotate_left
 ·have h1' : ¬ (l.length : Int) = (c.parts.length : Int) := by omega
  rw [decide_eq_false h1, Bool.false_and]
  unfold Config.v
  ((first | refine aC ?_ | skip); refine bE (cf := mS) rfl rfl rfl rfl ?_; unfold mS; dsimp only [aA, Nat.reduceAdd, Nat.zero_add])
  repeat' (first | refine aF ?_ | refine yc ?_ | refine sG (fun _ => ?_) fun _ => ?_ | refine aG ?_ | refine sH (fun _ => ?_) fun _ => ?_ | fail)
  rfl
 have h1' : (l.length : Int) = (c.parts.length : Int) := by omega
 rw [decide_eq_true h1, Bool.true_and]
 unfold Config.v at *
 ((first | refine aC ?_ | skip); refine bE (cf := mS) rfl rfl rfl rfl ?_; unfold mS; dsimp only [aA, Nat.reduceAdd, Nat.zero_add])
 repeat' (first | refine aF ?_ | refine yc ?_ | refine sG (fun _ => ?_) fun _ => ?_ | refine aG ?_ | refine sH (fun _ => ?_) fun _ => ?_ | fail)
 refine oK l.length (fun i (_ : Unit) => [(5, .int .i64 i)]) (fun _ _ => _) (fun i _ => l.all (aC3 c) = (l.drop i).all (aC3 c)) ?_ ?_ () rfl
 ·intro i _ hi hq ih
  obtain ⟨y, hy⟩ := oZ hi
  rw [oH hy, List.all_cons] at hq
  have hil : (i : Int) < (l.length : Int) := by omega
  have hw : IntKind.i64.wrap ((i : Int) + 1) = ((i + 1 : Nat) : Int) := IntWalk.i64_in _ (by omega)
  by_cases h2 : 0 ≤ y
  ·by_cases h3 : y ≤ c.ages + 1
   ·rw [show aC3 c y = true from decide_eq_true ⟨h2, h3⟩, Bool.true_and] at hq
    refine aJ (by dsimp only [eT, lk, Nat.reduceBEq, cond_true, cond_false, Option.getD_some, Option.getD_none]; first | done | exact rfl) ?_; refine aE ?_
    unfold iV
    repeat' (first | refine aF ?_ | refine yc ?_ (ha := by first | exact hg _ _ | assumption) | refine sG (fun _ => ?_) fun _ => ?_ | refine aG ?_ | refine sH (fun _ => ?_) fun _ => ?_ | fail)
    refine cV ?_
    exact ih () hq
   ·rw [show aC3 c y = false from decide_eq_false (fun k => h3 k.2), Bool.false_and] at hq
    refine aJ (by dsimp only [eT, lk, Nat.reduceBEq, cond_true, cond_false, Option.getD_some, Option.getD_none]; first | done | exact rfl) ?_; refine aE ?_
    unfold iV
    repeat' (first | refine aF ?_ | refine yc ?_ (ha := by first | exact hg _ _ | assumption) | refine sG (fun _ => ?_) fun _ => ?_ | refine aG ?_ | refine sH (fun _ => ?_) fun _ => ?_ | fail)
    rw [hq]
  ·rw [show aC3 c y = false from decide_eq_false (fun k => h2 k.1), Bool.false_and] at hq
   refine aJ (by dsimp only [eT, lk, Nat.reduceBEq, cond_true, cond_false, Option.getD_some, Option.getD_none]; first | done | exact rfl) ?_; refine aE ?_
   unfold iV
   repeat' (first | refine aF ?_ | refine yc ?_ (ha := by first | exact hg _ _ | assumption) | refine sG (fun _ => ?_) fun _ => ?_ | refine aG ?_ | refine sH (fun _ => ?_) fun _ => ?_ | fail)
   rw [hq]
 ·intro _ hq
  rw [List.drop_length] at hq
  refine aJ (by dsimp only [eT, lk, Nat.reduceBEq, cond_true, cond_false, Option.getD_some, Option.getD_none]; first | done | exact rfl) ?_; refine aE ?_
  unfold iV
  repeat' (first | refine aF ?_ | refine yc ?_ | refine sG (fun _ => ?_) fun _ => ?_ | refine aG ?_ | refine sH (fun _ => ?_) fun _ => ?_ | fail)
  rw [hq]; rfl
theorem aJz (h : Net c P S) {p : Int} (hp : ¬ (0 ≤ p ∧ p < c.parts.length)) : Call tab s eX [c.v, .int .i64 p] H = some (.sl none 0 [], H) := by
 have h1 := fun s H => aLx (s := s) (H := H) h (p := p)
 rw [decide_eq_false hp] at h1
 unfold Config.v at *
 ((first | refine aC ?_ | skip); refine bE (cf := c_ref5_Slots) rfl rfl rfl rfl ?_; unfold c_ref5_Slots; dsimp only [aA, Nat.reduceAdd, Nat.zero_add])
 repeat' (first | refine aF ?_ | refine yc ?_ (ha := by first | exact h1 _ _ | assumption) | refine sG (fun _ => ?_) fun _ => ?_ | refine aG ?_ | refine sH (fun _ => ?_) fun _ => ?_ | fail)
 rfl
theorem aM6 (h : Net c P S) {p i : Int} {f : Frame} (hp : ¬ (0 ≤ p ∧ p < c.parts.length)) : Call tab s gB [c.v, .int .i64 p, .int .i64 i, f.v] H = some (.bool false, H) := by
 have h1 := fun s H => aJz (s := s) (H := H) h hp
 unfold Config.v Frame.v at *
 by_cases hi : i < 0
 ·((first | refine aC ?_ | skip); refine bE (cf := aU) rfl rfl rfl rfl ?_; unfold aU; dsimp only [aA, Nat.reduceAdd, Nat.zero_add])
  repeat' (first | refine aF ?_ | refine yc ?_ (ha := by first | exact h1 _ _ | assumption) | refine sG (fun _ => ?_) fun _ => ?_ | refine aG ?_ | refine sH (fun _ => ?_) fun _ => ?_ | fail)
  rfl
 ·have hi2 : (0 : Int) ≤ i := by omega
  have hi3 : ((0 : Nat) : Int) ≤ i := by omega
  ((first | refine aC ?_ | skip); refine bE (cf := aU) rfl rfl rfl rfl ?_; unfold aU; dsimp only [aA, Nat.reduceAdd, Nat.zero_add])
  repeat' (first | refine aF ?_ | refine yc ?_ (ha := by first | exact h1 _ _ | assumption) | refine sG (fun _ => ?_) fun _ => ?_ | refine aG ?_ | refine sH (fun _ => ?_) fun _ => ?_ | fail)
  rfl
set_option maxHeartbeats 4000000 in
theorem aD8 {p : Nat} {i : Int} {f : Frame} (h : NetR c P S) (hR : SlotR P S) (hQ : PortR c P) (hS : (S p).length ≤ 1000) (hp : p < c.parts.length) (hl : f.ages.length ≤ 1000000) :
 Call tab s gB [c.v, .int .i64 (p : Int), .int .i64 i, f.v] H = some (.bool (F6 c (P p) (S p) p i f), H) := by
 have hsl := fun s H => h.rslt s H p hp
 unfold F6
 by_cases hi : 0 ≤ i ∧ i < (S p).length
 rotate_left
 ·rw [if_neg hi]
  by_cases hi2 : i < 0
  ·unfold Config.v Frame.v at *
   ((first | refine aC ?_ | skip); refine bE (cf := aU) rfl rfl rfl rfl ?_; unfold aU; dsimp only [aA, Nat.reduceAdd, Nat.zero_add])
   repeat' (first | refine aF ?_ | refine yc ?_ (ha := by first | exact hsl _ _ | assumption) | refine sG (fun _ => ?_) fun _ => ?_ | refine aG ?_ | refine sH (fun _ => ?_) fun _ => ?_ | fail)
   rfl
  ·have hi3 : ((S p).length : Int) ≤ i := by omega
   unfold Config.v Frame.v at *
   ((first | refine aC ?_ | skip); refine bE (cf := aU) rfl rfl rfl rfl ?_; unfold aU; dsimp only [aA, Nat.reduceAdd, Nat.zero_add])
   repeat' (first | refine aF ?_ | refine yc ?_ (ha := by first | exact hsl _ _ | assumption) | refine sG (fun _ => ?_) fun _ => ?_ | refine aG ?_ | refine sH (fun _ => ?_) fun _ => ?_ | fail)
   rfl
 rw [if_pos hi]
 obtain ⟨n, rfl⟩ : ∃ n : Nat, i = n := ⟨i.toNat, by omega⟩
 obtain ⟨x, hx⟩ : ∃ x, (S p)[n]? = some x := ⟨(S p)[n]'(by omega), by rw [List.getElem?_eq_getElem]⟩
 rw [show (S p).getD (n : Int).toNat default = x by rw [Int.toNat_natCast, List.getD_eq_getElem?_getD, hx]; rfl]
 obtain ⟨k2, k5, kp⟩ := hR p x (List.mem_of_getElem? hx)
 have hn0 : (0 : Int) ≤ (n : Int) := by omega
 have hn1 := hi.2
 have hpo := fun s H => aJ3 (s := s) (H := H) h.toNet hQ (n := x.node) hp
 have hwh := fun s H => aM5 (s := s) (H := H) h.toNet (l := f.ages) hl
 generalize S p = L at *
 by_cases hm : f.part = p ∧ f.node = x.node ∧ (f.kind = x.kind ∨ f.kind = 1 ∧ x.kind = 2)
 rotate_left
 ·rw [if_neg hm]
  by_cases h1 : f.part = p
  ·by_cases h2 : f.node = x.node
   ·have h3 : ¬ f.kind = x.kind := fun h => hm ⟨h1, h2, .inl h⟩
    by_cases h4 : f.kind = 1
    ·have h5 : ¬ x.kind = 2 := fun h => hm ⟨h1, h2, .inr ⟨h4, h⟩⟩
     unfold Config.v Frame.v at *
     ((first | refine aC ?_ | skip); refine bE (cf := aU) rfl rfl rfl rfl ?_; unfold aU; dsimp only [aA, Nat.reduceAdd, Nat.zero_add])
     repeat' (first | refine aF ?_ | refine yc ?_ (ha := by first | exact hsl _ _ | assumption) | refine sG (fun _ => ?_) fun _ => ?_ | refine aG ?_ | refine sH (fun _ => ?_) fun _ => ?_ | fail)
     rfl
    ·unfold Config.v Frame.v at *
     ((first | refine aC ?_ | skip); refine bE (cf := aU) rfl rfl rfl rfl ?_; unfold aU; dsimp only [aA, Nat.reduceAdd, Nat.zero_add])
     repeat' (first | refine aF ?_ | refine yc ?_ (ha := by first | exact hsl _ _ | assumption) | refine sG (fun _ => ?_) fun _ => ?_ | refine aG ?_ | refine sH (fun _ => ?_) fun _ => ?_ | fail)
     rfl
   ·unfold Config.v Frame.v at *
    ((first | refine aC ?_ | skip); refine bE (cf := aU) rfl rfl rfl rfl ?_; unfold aU; dsimp only [aA, Nat.reduceAdd, Nat.zero_add])
    repeat' (first | refine aF ?_ | refine yc ?_ (ha := by first | exact hsl _ _ | assumption) | refine sG (fun _ => ?_) fun _ => ?_ | refine aG ?_ | refine sH (fun _ => ?_) fun _ => ?_ | fail)
    rfl
  ·unfold Config.v Frame.v at *
   ((first | refine aC ?_ | skip); refine bE (cf := aU) rfl rfl rfl rfl ?_; unfold aU; dsimp only [aA, Nat.reduceAdd, Nat.zero_add])
   repeat' (first | refine aF ?_ | refine yc ?_ (ha := by first | exact hsl _ _ | assumption) | refine sG (fun _ => ?_) fun _ => ?_ | refine aG ?_ | refine sH (fun _ => ?_) fun _ => ?_ | fail)
   rfl
 rw [if_pos hm]
 obtain ⟨h1, h2, h3⟩ := hm
 have hport : ∃ (y : Port) (b : Bool), qB (P p) x.node = .tup [y.v, .bool b] ∧ (3 ≤ x.kind → G0 (P p) x.node = y.link) := by
  by_cases h0 : gU (P p) x.node < 0
  ·exact ⟨_, _, aEs h0, fun h => absurd h0 (kp h)⟩
  ·obtain ⟨y, hy, hyl⟩ := aEt h0
   exact ⟨y, true, hy, fun _ => hyl⟩
 obtain ⟨y, b, hy, hb⟩ := hport
 rw [hy] at hpo
 by_cases q1 : f.kind = 1
 ·rw [if_pos q1]
  have q2 : x.kind = 2 := by omega
  unfold Config.v Frame.v Port.v at *
  ((first | refine aC ?_ | skip); refine bE (cf := aU) rfl rfl rfl rfl ?_; unfold aU; dsimp only [aA, Nat.reduceAdd, Nat.zero_add])
  repeat' (first | refine aF ?_ | refine yc ?_ (ha := by first | exact hsl _ _ | exact hpo _ _ | exact hwh _ _ | assumption) | refine sG (fun _ => ?_) fun _ => ?_ | refine aG ?_ | refine sH (fun _ => ?_) fun _ => ?_ | fail)
  rfl
 rw [if_neg q1]
 have q0 : f.kind = x.kind := by omega
 by_cases q2 : f.kind = 2
 ·rw [if_pos q2]
  cases hw : yW c f.ages
  all_goals
   rw [hw] at hwh
   unfold Config.v Frame.v Port.v at *
   ((first | refine aC ?_ | skip); refine bE (cf := aU) rfl rfl rfl rfl ?_; unfold aU; dsimp only [aA, Nat.reduceAdd, Nat.zero_add])
   repeat' (first | refine aF ?_ | refine yc ?_ (ha := by first | exact hsl _ _ | exact hpo _ _ | exact hwh _ _ | assumption) | refine sG (fun _ => ?_) fun _ => ?_ | refine aG ?_ | refine sH (fun _ => ?_) fun _ => ?_ | fail)
   rfl
 rw [if_neg q2]
 have hyl := hb (by omega)
 rw [hyl]
 by_cases q4 : f.kind = 3
 ·rw [if_pos q4]
  unfold Config.v Frame.v Port.v at *
  ((first | refine aC ?_ | skip); refine bE (cf := aU) rfl rfl rfl rfl ?_; unfold aU; dsimp only [aA, Nat.reduceAdd, Nat.zero_add])
  repeat' (first | refine aF ?_ | refine yc ?_ (ha := by first | exact hsl _ _ | exact hpo _ _ | exact hwh _ _ | assumption) | refine sG (fun _ => ?_) fun _ => ?_ | refine aG ?_ | refine sH (fun _ => ?_) fun _ => ?_ | fail)
  all_goals first | (with_reducible rfl) | (simp only [Option.some.injEq, Prod.mk.injEq, V.bool.injEq, V.tup.injEq, V.int.injEq, List.cons.injEq, and_true, true_and]; first | done | (rw [Bool.eq_iff_iff]; simp only [decide_eq_true_eq, Bool.false_eq_true, Bool.true_eq_false, false_iff, iff_false, true_iff, iff_true, Bool.not_eq_true, decide_eq_false_iff_not, Bool.and_eq_true, Bool.or_eq_true]; omega) | omega)
 rw [if_neg q4]
 by_cases q5 : f.kind = 4
 ·rw [if_pos q5]
  cases hw : yW c f.ages
  all_goals
   rw [hw] at hwh
   simp only [Bool.and_true, Bool.and_false]
   unfold Config.v Frame.v Port.v at *
   ((first | refine aC ?_ | skip); refine bE (cf := aU) rfl rfl rfl rfl ?_; unfold aU; dsimp only [aA, Nat.reduceAdd, Nat.zero_add])
   repeat' (first | refine aF ?_ | refine yc ?_ (ha := by first | exact hsl _ _ | exact hpo _ _ | exact hwh _ _ | assumption) | refine sG (fun _ => ?_) fun _ => ?_ | refine aG ?_ | refine sH (fun _ => ?_) fun _ => ?_ | fail)
   all_goals first | (with_reducible rfl) | (simp only [Option.some.injEq, Prod.mk.injEq, V.bool.injEq, V.tup.injEq, V.int.injEq, List.cons.injEq, and_true, true_and]; first | done | (rw [Bool.eq_iff_iff]; simp only [decide_eq_true_eq, Bool.false_eq_true, Bool.true_eq_false, false_iff, iff_false, true_iff, iff_true, Bool.not_eq_true, decide_eq_false_iff_not, Bool.and_eq_true, Bool.or_eq_true]; omega) | omega)
 rw [if_neg q5]
 have q6 : f.kind = 5 := by omega
 unfold Config.v Frame.v Port.v at *
 ((first | refine aC ?_ | skip); refine bE (cf := aU) rfl rfl rfl rfl ?_; unfold aU; dsimp only [aA, Nat.reduceAdd, Nat.zero_add])
 repeat' (first | refine aF ?_ | refine yc ?_ (ha := by first | exact hsl _ _ | exact hpo _ _ | exact hwh _ _ | assumption) | refine sG (fun _ => ?_) fun _ => ?_ | refine aG ?_ | refine sH (fun _ => ?_) fun _ => ?_ | fail)
 all_goals first | (first | (with_reducible rfl) | (simp only [Option.some.injEq, Prod.mk.injEq, V.bool.injEq, V.tup.injEq, V.int.injEq, List.cons.injEq, and_true, true_and]; first | done | (rw [Bool.eq_iff_iff]; simp only [decide_eq_true_eq, Bool.false_eq_true, Bool.true_eq_false, false_iff, iff_false, true_iff, iff_true, Bool.not_eq_true, decide_eq_false_iff_not, Bool.and_eq_true, Bool.or_eq_true]; omega) | omega)) | (by_cases k : f.frm = f.to <;> simp [*])
end
end Go.Abs
namespace Go.Abs
open Go.Proofs.YtpcnjabfiahhhaaGreatDoor
structure A8 (Q : Nat → Prop) : Type where
 mk :: (h0 : Q 0) (h1 : Q 1) (h2 : Q 2) (h3 : Q 3) (h4 : Q 4) (h5 : Q 5) (h6 : Q 6) (h7 : Q 7)
structure A20 (Q : Nat → Nat → Prop) : Type where
 mk :: (h00 : Q 0 0) (h10 : Q 1 0) (h11 : Q 1 1) (h20 : Q 2 0) (h21 : Q 2 1) (h22 : Q 2 2) (h30 : Q 3 0) (h31 : Q 3 1) (h32 : Q 3 2) (h40 : Q 4 0) (h41 : Q 4 1) (h42 : Q 4 2) (h50 : Q 5 0) (h51 : Q 5 1) (h52 : Q 5 2) (h53 : Q 5 3) (h60 : Q 6 0) (h61 : Q 6 1) (h62 : Q 6 2) (h63 : Q 6 3) (h70 : Q 7 0) (h71 : Q 7 1) (h72 : Q 7 2) (h73 : Q 7 3)
theorem k8 {Q : Nat → Prop} (h : A8 Q) : ∀ k, k < 8 → Q k := by
 obtain ⟨h0, h1, h2, h3, h4, h5, h6, h7⟩ := h
 intro k hk
 rcases (show k = 0 ∨ k = 1 ∨ k = 2 ∨ k = 3 ∨ k = 4 ∨ k = 5 ∨ k = 6 ∨ k = 7 by omega) with rfl | rfl | rfl | rfl | rfl | rfl | rfl | rfl <;> assumption
theorem kp {Q : Nat → Nat → Prop} (h : A20 Q) : ∀ k p, k < 8 → p < (dL k).length → Q k p := by
 obtain ⟨h00, h10, h11, h20, h21, h22, h30, h31, h32, h40, h41, h42, h50, h51, h52, h53, h60, h61, h62, h63, h70, h71, h72, h73⟩ := h
 refine fun k p hk => (k8 (Q := fun k => ∀ p, p < (dL k).length → Q k p) ⟨?_, ?_, ?_, ?_, ?_, ?_, ?_, ?_⟩ k hk) p
 all_goals
  intro p hp
  simp only [dL, List.length_cons, List.length_nil, Nat.reduceAdd] at hp
  rcases (show p = 0 ∨ p = 1 ∨ p = 2 ∨ p = 3 by omega) with rfl | rfl | rfl | rfl
  all_goals first | assumption | (exfalso; omega)
end Go.Abs
