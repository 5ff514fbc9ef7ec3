/- A part of the proof of RowAirFits, RowAirHeard, RowAirOrder, RowAirLost: lemmas alone, without conditions. -/
import Derived.Test.YtpcnjabfiahhhaaGreatDoorK13
import Derived.IntWalk
set_option linter.all false
namespace Go.Abs
class Dis1 (v : V) (w : outParam V) : Prop where eq : v.dis1 = w
class DisL (cs : List V) (ds : outParam (List V)) : Prop where eq : cs.map V.dis1 = ds
class Dis2 (v : V) (w : outParam V) : Prop where eq : v.dis2 = w
class DisT (cs : List V) (ds : outParam (List V)) : Prop where eq : cs.map V.dis2 = ds
class Dis (v : V) (w : outParam V) : Prop where eq : v.dis = w
instance (priority := low) dis1_any (v : V) : Dis1 v v.dis1 := ⟨rfl⟩
instance (priority := low) dis2_any (v : V) : Dis2 v v.dis2 := ⟨rfl⟩
instance (priority := low) dis_any (v : V) : Dis v v.dis := ⟨rfl⟩
instance (priority := low) disL_any (cs : List V) : DisL cs (cs.map V.dis1) := ⟨rfl⟩
instance (priority := low) disT_any (cs : List V) : DisT cs (cs.map V.dis2) := ⟨rfl⟩
instance : DisL [] [] := ⟨rfl⟩
instance {v w : V} {r s : List V} [h : Dis1 v w] [k : DisL r s] : DisL (v :: r) (w :: s) := ⟨by rw [List.map_cons, h.eq, k.eq]⟩
instance : DisT [] [] := ⟨rfl⟩
instance {v w : V} {r s : List V} [h : Dis2 v w] [k : DisT r s] : DisT (v :: r) (w :: s) := ⟨by rw [List.map_cons, h.eq, k.eq]⟩
instance (b) : Dis1 (.bool b) (.bool b) := ⟨rfl⟩
instance (k n) : Dis1 (.int k n) (.int k n) := ⟨rfl⟩
instance (l) : Dis1 (.str l) (.str l) := ⟨rfl⟩
instance (i o) : Dis1 (.ptr i o) (.ptr i o) := ⟨rfl⟩
instance : Dis1 .nilp .nilp := ⟨rfl⟩
instance (c i) : Dis1 (.fp c i) (.fp c i) := ⟨rfl⟩
instance (o n c) : Dis1 (.sl o n c) (.sl none n c) := ⟨rfl⟩
instance (i o n c) : Dis1 (.via i o n c) (.sl none n c) := ⟨rfl⟩
instance (a b c d r) : Dis1 (.ar a b c d r) (.ar a b c d r) := ⟨rfl⟩
instance : Dis1 .nls .nls := ⟨rfl⟩
instance (f c) : Dis1 (.fn f c) (.fn f c) := ⟨rfl⟩
instance : Dis1 .nilf .nilf := ⟨rfl⟩
instance (t v) : Dis1 (.ifc t v) (.ifc t v) := ⟨rfl⟩
instance : Dis1 .nili .nili := ⟨rfl⟩
instance (b) : Dis2 (.bool b) (.bool b) := ⟨rfl⟩
instance (k n) : Dis2 (.int k n) (.int k n) := ⟨rfl⟩
instance (l) : Dis2 (.str l) (.str l) := ⟨rfl⟩
instance (i o) : Dis2 (.ptr i o) (.ptr i o) := ⟨rfl⟩
instance : Dis2 .nilp .nilp := ⟨rfl⟩
instance (c i) : Dis2 (.fp c i) (.fp c i) := ⟨rfl⟩
instance (o n c) : Dis2 (.sl o n c) (.sl none n c) := ⟨rfl⟩
instance (a b c d r) : Dis2 (.ar a b c d r) (.ar a b c d r) := ⟨rfl⟩
instance : Dis2 .nls .nls := ⟨rfl⟩
instance (f c) : Dis2 (.fn f c) (.fn f c) := ⟨rfl⟩
instance : Dis2 .nilf .nilf := ⟨rfl⟩
instance (t v) : Dis2 (.ifc t v) (.ifc t v) := ⟨rfl⟩
instance : Dis2 .nili .nili := ⟨rfl⟩
instance {c d : List V} [h : DisL c d] : Dis2 (.agg c) (.agg d) := ⟨by rw [V.dis2, h.eq]⟩
instance (b) : Dis (.bool b) (.bool b) := ⟨rfl⟩
instance (k n) : Dis (.int k n) (.int k n) := ⟨rfl⟩
instance (l) : Dis (.str l) (.str l) := ⟨rfl⟩
instance (i o) : Dis (.ptr i o) (.ptr i o) := ⟨rfl⟩
instance : Dis .nilp .nilp := ⟨rfl⟩
instance (c i) : Dis (.fp c i) (.fp c i) := ⟨rfl⟩
instance (o n c) : Dis (.sl o n c) (.sl none n c) := ⟨rfl⟩
instance (i o n c) : Dis (.via i o n c) (.sl none n c) := ⟨rfl⟩
instance (a b c d r) : Dis (.ar a b c d r) (.ar a b c d r) := ⟨rfl⟩
instance : Dis .nls .nls := ⟨rfl⟩
instance (f c) : Dis (.fn f c) (.fn f c) := ⟨rfl⟩
instance : Dis .nilf .nilf := ⟨rfl⟩
instance (t v) : Dis (.ifc t v) (.ifc t v) := ⟨rfl⟩
instance : Dis .nili .nili := ⟨rfl⟩
instance {c d : List V} [h : DisL c d] : Dis (.agg c) (.agg d) := ⟨by rw [V.dis, h.eq]⟩
instance {c d : List V} [h : DisT c d] : Dis (.tup c) (.tup d) := ⟨by rw [V.dis, h.eq]⟩
class Cells (v : V) (cs : outParam (List V)) : Prop where
 eq : v.cells = cs
 bx : v.boxy = true
instance (b) : Cells (.bool b) [.bool b] := ⟨rfl, rfl⟩
instance (k n) : Cells (.int k n) [.int k n] := ⟨rfl, rfl⟩
instance (l) : Cells (.str l) [.str l] := ⟨rfl, rfl⟩
instance (i o) : Cells (.ptr i o) [.ptr i o] := ⟨rfl, rfl⟩
instance : Cells .nilp [.nilp] := ⟨rfl, rfl⟩
instance (o n c) : Cells (.sl o n c) [.sl o n c] := ⟨rfl, rfl⟩
instance (a b c d r) : Cells (.ar a b c d r) [.ar a b c d r] := ⟨rfl, rfl⟩
instance : Cells .nls [.nls] := ⟨rfl, rfl⟩
instance (f c) : Cells (.fn f c) [.fn f c] := ⟨rfl, rfl⟩
instance : Cells .nilf [.nilf] := ⟨rfl, rfl⟩
instance (t v) : Cells (.ifc t v) [.ifc t v] := ⟨rfl, rfl⟩
instance : Cells .nili [.nili] := ⟨rfl, rfl⟩
instance (c) : Cells (.agg c) c := ⟨rfl, rfl⟩
def g : aQ → Nat → Option V
 | [], _ => none
 | (s, v) :: e, t => match Nat.beq s t with | true => some v | false => g e t
theorem A7 : ∀ (e : aQ) (t : Nat), g e t = eget e t
 | [], _ => rfl
 | (s, v) :: e, t => by
   unfold g eget
   by_cases h : s = t
   ·subst h; rw [Nat.beq_refl, if_pos rfl]
   ·have : Nat.beq s t = false := by cases hb : Nat.beq s t with | false => rfl | true => exact absurd (Nat.eq_of_beq_eq_true hb) h
    rw [this, if_neg h]; exact A7 e t
def eh : aQ → Nat → Bool
 | [], _ => false
 | (s, _) :: e, t => match Nat.beq s t with | true => true | false => eh e t
theorem aHt : ∀ {e : aQ} {t : Nat}, eh e t = false → aX e t = e
 | [], _, _ => rfl
 | (s, v) :: e, t, h => by
   unfold eh at h
   split at h
   ·cases h
   ·rename_i hb
    have : s ≠ t := fun k => by subst k; rw [Nat.beq_refl] at hb; cases hb
    unfold aX
    rw [if_neg this, aHt h]
theorem aVn {t : Nat} : aX [] t = [] := rfl
theorem aVo {t : Nat} {v : V} {e e' : aQ} (h : aX e t = e') : aX ((t, v) :: e) t = e' := by unfold aX; rw [if_pos rfl]; exact h
theorem aSe {s t : Nat} {v : V} {e e' : aQ} (hb : Nat.beq s t = false) (h : aX e t = e') : aX ((s, v) :: e) t = (s, v) :: e' := by
 have : s ≠ t := fun k => by subst k; rw [Nat.beq_refl] at hb; cases hb
 unfold aX; rw [if_neg this, h]
def lc : List Nat → Nat → Bool
 | [], _ => false
 | a :: l, t => match Nat.beq a t with | true => true | false => lc l t
theorem aLb : ∀ (l : List Nat) (t : Nat), lc l t = l.contains t
 | [], _ => rfl
 | a :: l, t => by
   unfold lc
   rw [List.contains_cons]
   by_cases h : a = t
   ·subst h; rw [Nat.beq_refl]; simp
   ·have : Nat.beq a t = false := by cases hb : Nat.beq a t with | false => rfl | true => exact absurd (Nat.eq_of_beq_eq_true hb) h
    rw [this]
    have : (t == a) = false := by simpa using fun k => h k.symm
    rw [this, Bool.false_or]; exact aLb l t
theorem aVp {l : List Nat} : aZ l [] = [] := rfl
theorem aVq {s : Nat} {v : V} : cO s v [] = [(s, v)] := rfl
theorem aSf {s t : Nat} {v u : V} {e : aQ} (h : Nat.ble s t = true) : cO s v ((t, u) :: e) = (s, v) :: (t, u) :: e := by unfold cO; rw [h]
theorem aSg {s t : Nat} {v u : V} {e e' : aQ} (h : Nat.ble s t = false) (r : cO s v e = e') : cO s v ((t, u) :: e) = (t, u) :: e' := by unfold cO; rw [h, r]
theorem bAg {l : List Nat} {s : Nat} {v : V} {e e' e'' : aQ} (h : lc l s = true) (r : aZ l e = e') (i : cO s v e' = e'') : aZ l ((s, v) :: e) = e'' := by
 rw [aLb] at h; unfold aZ; rw [if_pos h, r, i]
theorem aVr {l : List Nat} {s : Nat} {v : V} {e e' : aQ} (h : lc l s = false) (r : aZ l e = e') : aZ l ((s, v) :: e) = e' := by
 rw [aLb] at h; unfold aZ; rw [if_neg (by rw [h]; exact Bool.false_ne_true), r]
theorem aVs {e : aQ} : dB [] e = some ([], e) := rfl
theorem x_t {n : Nat} {xs : List X} {e e1 : aQ} {v w : V} {ws : List V} (h : g e n = some v) (d : Dis v w) (r : dB xs e = some (ws, e1)) : dB (.t n :: xs) e = some (w :: ws, e1) := by
 rw [A7] at h
 simp only [dB, eI, h, Option.map_some, Option.bind_some, r, d.eq]
theorem x_m {n : Nat} {xs : List X} {e e1 e2 : aQ} {v : V} {ws : List V} (h : g e n = some v) (hd : aX e n = e1) (r : dB xs e1 = some (ws, e2)) : dB (.m n :: xs) e = some (v :: ws, e2) := by
 rw [A7] at h
 simp only [dB, eI, h, Option.map_some, Option.bind_some, hd, r]
theorem x_k {v : V} {xs : List X} {e e1 : aQ} {ws : List V} (r : dB xs e = some (ws, e1)) : dB (.k v :: xs) e = some (v :: ws, e1) := by
 simp only [dB, eI, Option.map_some, Option.bind_some, r]
theorem e_t {n : Nat} {e : aQ} {v w : V} (h : g e n = some v) (d : Dis v w) : eI (.t n) e = some (w, e) := by
 rw [A7] at h; simp only [eI, h, Option.map_some, d.eq]
theorem e_m {n : Nat} {e e1 : aQ} {v : V} (h : g e n = some v) (hd : aX e n = e1) : eI (.m n) e = some (v, e1) := by
 rw [A7] at h; simp only [eI, h, Option.map_some, hd]
theorem e_k {v : V} {e : aQ} : eI (.k v) e = some (v, e) := rfl
section
variable {β : Type} {T : Tab} {s : Option Nat}
theorem bAh {d : Nat} {o : O} {xs : List X} {rs} {e e1 e2 : aQ} {H H1 : aB} {vs : List V} {v : V} {κ : aQ × aB → Option β} {Y : Option β → Prop} (hx : dB xs e = some (vs, e1)) (ha : apply s o vs H = some (v, H1)) (hw : (!o.writes || gK e1) = true) (hd : aX e1 d = e2)
 (k : Ev (RR T s rs ((d, v) :: e2) H1 κ) Y) : Ev (RR T s ((some d, none, .op o xs) :: rs) e H κ) Y := by
 refine xD ?_ k
 simp only [mY, step, hx, Option.bind_some, hw, if_true, ha, Option.map_some, sN, vB, hd]
theorem aVt {o : O} {xs : List X} {rs} {e e1 : aQ} {H H1 : aB} {vs : List V} {v : V} {κ : aQ × aB → Option β} {Y : Option β → Prop} (hx : dB xs e = some (vs, e1)) (ha : apply s o vs H = some (v, H1)) (hw : (!o.writes || gK e1) = true)
 (k : Ev (RR T s rs e1 H1 κ) Y) : Ev (RR T s ((none, none, .op o xs) :: rs) e H κ) Y := by
 refine xD ?_ k
 simp only [mY, step, hx, Option.bind_some, hw, if_true, ha, Option.map_some, aN7]
theorem bAi {d : Nat} {x : X} {rs} {e e1 e2 : aQ} {H : aB} {v : V} {κ : aQ × aB → Option β} {Y : Option β → Prop} (hx : eI x e = some (v, e1)) (hd : aX e1 d = e2)
 (k : Ev (RR T s rs ((d, v) :: e2) H κ) Y) : Ev (RR T s ((some d, none, .mv x) :: rs) e H κ) Y := by
 refine xD ?_ k
 simp only [mY, step, hx, Option.map_some, sN, vB, hd]
theorem aSh {d : Nat} {f : FuncId} {xs : List X} {rs} {e e1 e2 : aQ} {H H1 : aB} {vs : List V} {v : V} {κ : aQ × aB → Option β} {Y : Option β → Prop} (hx : dB xs e = some (vs, e1)) (ha : Call T s f vs H = some (v, H1)) (hw : (T.pu f || gK e1) = true) (hd : aX e1 d = e2)
 (k : Ev (RR T s rs ((d, v) :: e2) H1 κ) Y) : Ev (RR T s ((some d, none, .call f xs 0) :: rs) e H κ) Y := by
 refine xD ?_ k
 simp only [mY, step, hx, Option.bind_some, hw, if_true, P5 (nw := 0) (args := vs) (H := H) ha rfl, Option.map_some, sN, vB, hd]
theorem oG {i o : Nat} {vs : List V} {H H1 : aB} (h : sR i H H1 = true) : okN 3 (.ptr i o :: vs) H H1 = true := h
theorem aOu {d nw : Nat} {f : FuncId} {xs : List X} {rs} {e e1 e2 : aQ} {H H1 : aB} {vs : List V} {v : V} {κ : aQ × aB → Option β} {Y : Option β → Prop} (hx : dB xs e = some (vs, e1)) (ha : Call T s f vs H = some (v, H1)) (hn : okN nw vs H H1 = true) (hw : (T.pu f || gK e1) = true) (hd : aX e1 d = e2)
 (k : Ev (RR T s rs ((d, v) :: e2) H1 κ) Y) : Ev (RR T s ((some d, none, .call f xs nw) :: rs) e H κ) Y := by
 refine xD ?_ k
 simp only [mY, step, hx, Option.bind_some, hw, if_true, P5 (nw := nw) (args := vs) ha hn, Option.map_some, sN, vB, hd]
theorem aVu {d i t : Nat} {rs} {e e1 e2 : aQ} {H : aB} {vs ws : List V} {v w : V} {κ : aQ × aB → Option β} {Y : Option β → Prop} (h : g e t = some (.tup vs)) (hv : vs[i]? = some v) (hn : v.ntup = some v) [dw : Dis2 v w] (hs : vs.set i w = ws) (he : aX e t = e1) (hd : aX ((t, .tup ws) :: e1) d = e2)
 (k : Ev (RR T s rs ((d, v) :: e2) H κ) Y) : Ev (RR T s ((some d, none, .exm i t) :: rs) e H κ) Y := by
 rw [A7] at h
 refine xD ?_ k
 simp only [mY, step, h, hv, Option.bind_some, hn, Option.map_some, sN, vB, dw.eq, hs, he, hd]
theorem aVv {d : Option Nat} {q : Nat} {c : Bool} {i : I} {rs} {e : aQ} {H : aB} {κ : aQ × aB → Option β} {Y : Option β → Prop} (hg : g e q = some (.bool c)) (hc : c = true) (h : Ev (RR T s ((d, none, i) :: rs) e H κ) Y) : Ev (RR T s ((d, some (q, true), i) :: rs) e H κ) Y := by
 rw [A7] at hg; subst hc; exact aYj hg h
theorem aVw {d : Option Nat} {q : Nat} {c : Bool} {i : I} {rs} {e : aQ} {H : aB} {κ : aQ × aB → Option β} {Y : Option β → Prop} (hg : g e q = some (.bool c)) (hc : c = false) (h : Ev (RR T s ((d, none, i) :: rs) e H κ) Y) : Ev (RR T s ((d, some (q, false), i) :: rs) e H κ) Y := by
 rw [A7] at hg; subst hc; exact aYj hg h
theorem aSi {d : Nat} {q : Nat} {c : Bool} {i : I} {rs} {e e1 : aQ} {H : aB} {κ : aQ × aB → Option β} {Y : Option β → Prop} (hg : g e q = some (.bool c)) (hc : c = true) (hd : aX e d = e1) (h : Ev (RR T s rs ((d, .tup []) :: e1) H κ) Y) : Ev (RR T s ((some d, some (q, false), i) :: rs) e H κ) Y := by
 rw [A7] at hg; subst hc; exact aYk hg (by rw [← hd]; rfl) h
theorem aSj {d : Nat} {q : Nat} {c : Bool} {i : I} {rs} {e e1 : aQ} {H : aB} {κ : aQ × aB → Option β} {Y : Option β → Prop} (hg : g e q = some (.bool c)) (hc : c = false) (hd : aX e d = e1) (h : Ev (RR T s rs ((d, .tup []) :: e1) H κ) Y) : Ev (RR T s ((some d, some (q, true), i) :: rs) e H κ) Y := by
 rw [A7] at hg; subst hc; exact aYk hg (by rw [← hd]; rfl) h
variable {H : aB}
theorem bAj {f id o p : Nat} (h : o + f = p) : apply s (.fa f) [.ptr id o] H = some (.ptr id p, H) := by rw [← h]; rfl
theorem aSk {f o p : Nat} {c : List V} (h : o + f = p) : apply s (.fa f) [.fp c o] H = some (.fp c p, H) := by rw [← h]; rfl
theorem bAk {id o : Nat} : apply s .nc [.ptr id o] H = some (.ptr id o, H) := rfl
theorem bAl {id o : Nat} {cs : List V} {v w : V} (h : H[id]? = some cs) (hc : cs[o]? = some v) [d : Dis1 v w] : apply s .ld [.ptr id o] H = some (w, H) := by
 have := EVA.2.2.2.2.2.2.1 s id o H
 rw [this, aJ5 h, hc, Option.map_some, d.eq]
theorem aSl {o : Nat} {cs : List V} {v w : V} (hc : cs[o]? = some v) [d : Dis1 v w] : apply s .ld [.fp cs o] H = some (w, H) := by
 have := EVA.2.2.2.2.2.2.2.1 s cs o H
 rw [this, hc, Option.map_some, d.eq]
theorem aGo {o n : Nat} {cs ds : List V} (h : (cs.drop o).take n = ds) (hl : ds.length = n) : n = 0 ∨ o + n ≤ cs.length := by
 rw [← h, List.length_take, List.length_drop] at hl; omega
theorem aVx {id o n : Nat} {cs ds es : List V} (h : H[id]? = some cs) (hc : (cs.drop o).take n = ds) (hl : ds.length = n) (hn : Nat.beq n 0 = false) [d : DisL ds es] : apply s (.ldn n) [.ptr id o] H = some (.agg es, H) := by
 have := EVA.2.2.2.2.2.2.2.2.1 s n id o H
 have hn' : n ≠ 0 := fun k => by subst k; cases hn
 rw [this, K3 h, if_pos ((aGo hc hl).resolve_left hn'), hc, Option.map_some, d.eq]
theorem aOv {o n : Nat} {cs ds es : List V} (hc : (cs.drop o).take n = ds) (hl : ds.length = n) (hn : Nat.beq n 0 = false) [d : DisL ds es] : apply s (.ldn n) [.fp cs o] H = some (.agg es, H) := by
 have := EVA.2.2.2.2.2.2.2.2.2.1 s n cs o H
 have hn' : n ≠ 0 := fun k => by subst k; cases hn
 rw [this, if_pos ((aGo hc hl).resolve_left hn'), hc, d.eq]
theorem aVy {z n i p : Nat} {w : Option Nat} {c : List V} {k : IntKind} (h : i < n) (hp : i * z = p) : apply s (.ix z) [.sl w n c, .int k (i : Nat)] H = some (.fp c p, H) := by
 rw [← hp, EVA.2.2.1, if_pos ⟨by omega, by omega⟩, Int.toNat_natCast]
theorem aSm {z len id o p : Nat} {i : Int} {k : IntKind} (h0 : 0 ≤ i) (h : i < (len : Int)) (hp : o + i.toNat * z = p) : apply s (.ixa z len) [.ptr id o, .int k i] H = some (.ptr id p, H) := by
 rw [← hp, EVA.2.2.2.2.1, if_pos ⟨h0, h⟩]
theorem aVz {k : IntKind} {a b : Int} : apply s (.bin .lss) [.int k a, .int k b] H = some (.bool (decide (a < b)), H) := by simp only [EVB, Option.map_some]
theorem aW0 {k : IntKind} {a b : Int} : apply s (.bin .leq) [.int k a, .int k b] H = some (.bool (decide (a ≤ b)), H) := by simp only [EVB, Option.map_some]
theorem aW1 {k : IntKind} {a b : Int} : apply s (.bin .gtr) [.int k a, .int k b] H = some (.bool (decide (b < a)), H) := by simp only [EVB, Option.map_some]
theorem aW2 {k : IntKind} {a b : Int} : apply s (.bin .geq) [.int k a, .int k b] H = some (.bool (decide (b ≤ a)), H) := by simp only [EVB, Option.map_some]
theorem aW3 {k : IntKind} {a b : Int} : apply s (.bin .eql) [.int k a, .int k b] H = some (.bool (a == b), H) := by simp only [EVB, Option.map_some]
theorem aW4 {k : IntKind} {a b : Int} : apply s (.bin .neq) [.int k a, .int k b] H = some (.bool (a != b), H) := by simp only [EVB, Option.map_some]
theorem aW5 {k : IntKind} {a b c : Int} (h : k.wrap (a + b) = c) : apply s (.bin .add) [.int k a, .int k b] H = some (.int k c, H) := by simp only [EVB, Option.map_some, h]
theorem aW6 {k : IntKind} {a b c : Int} (h : k.wrap (a - b) = c) : apply s (.bin .sub) [.int k a, .int k b] H = some (.int k c, H) := by simp only [EVB, Option.map_some, h]
theorem aW7 {k : IntKind} {a b c : Int} (h : k.wrap (a * b) = c) : apply s (.bin .mul) [.int k a, .int k b] H = some (.int k c, H) := by simp only [EVB, Option.map_some, h]
theorem aSn {a b : Bool} : apply s (.beq false) [.bool a, .bool b] H = some (.bool (a == b), H) := by simp only [EVB, Bool.false_bne]
theorem aSo {a b : Bool} : apply s (.beq true) [.bool a, .bool b] H = some (.bool (a != b), H) := by simp only [EVB]; cases a <;> cases b <;> rfl
theorem aW8 {a : Bool} : apply s (.un .not) [.bool a] H = some (.bool !a, H) := by simp only [EVB, Option.map_some]
theorem aSp {id o : Nat} : apply s (.peq false) [.ptr id o, .nilp] H = some (.bool false, H) := rfl
theorem aW9 {id o : Nat} : apply s (.peq true) [.ptr id o, .nilp] H = some (.bool true, H) := rfl
theorem aWa {w : Option Nat} {n : Nat} {c : List V} : apply s (.len false) [.sl w n c] H = some (.int .i64 n, H) := rfl
theorem aOw {a b c n r : Nat} : apply s (.len false) [.ar a b c n r] H = some (.int .i64 n, H) := rfl
theorem aLc : apply s (.len false) [.nls] H = some (.int .i64 0, H) := rfl
theorem aWb {n : Nat} {v : V} {cs : List V} [hc : Cells v cs] (hl : cs.length = n) : apply s (.box n) [v] H = some (.ptr H.length 0, H ++ [cs]) := by
 have := hc.eq; subst this; subst hl; simp [apply, aKj, hc.bx]
theorem aWc {z : List V} : apply s (.alc z) [] H = some (.ptr H.length 0, H ++ [z]) := rfl
theorem bAm {id o : Nat} {v : V} {cs ds : List V} {H' : aB} (h : H[id]? = some cs) (ho : (cs[o]?).isSome = true) (hs : v.single = true) (hm : bN s id (fun m => v.rb m) = true) (hd : cs.set o v = ds) (hH : H.set id ds = H') : apply s .st [.ptr id o, v] H = some (.tup [], H') := by
 have := EVA.2.2.2.2.2.2.2.2.2.2.2.2.2.2.1 s id o v H
 rw [this, hs, aJ5 h, ho, hm, aR1 h, hd, hH]; rfl
theorem aWd {n id o : Nat} {xs cs ds : List V} {H' : aB} (h : H[id]? = some cs) (hx : xs.length = n) (ho : o + n ≤ cs.length) (hm : bN s id (fun m => V.rbL m xs) = true) (hd : fB cs o xs = ds) (hH : H.set id ds = H') : apply s (.stn n) [.ptr id o, .agg xs] H = some (.tup [], H') := by
 have := EVA.2.2.2.2.2.2.2.2.2.2.2.2.2.2.2.1 s n id o xs H
 rw [this, K3 h, if_pos ho, hm, h]
 simp [hx, hd, hH]
theorem aWe {z : List V} {ps : List (Nat × Nat)} {vs cs : List V} (h : aW z ps vs = some cs) : apply s (.bld z ps) vs H = some (.agg cs, H) := by
 have := EVA.2.2.2.2.2.2.2.2.2.2.2.2.2.2.2.2.2.2.2.2.2.2.2.1 s z ps vs H
 rw [this, h]; rfl
theorem aSq {sz : Nat} {z cs ds : List V} {v : V} [hc : Cells v cs] (hl : cs.length = sz) (hz : z.length = sz) (hs : sz ≤ 16777216) [d : DisL cs ds] : apply s (.bsl sz z 1 [0]) [v] H = some (.sl (some sz) 1 ds, H) := by
 have := hc.eq; subst this
 have hb := hc.bx
 simp only [apply]
 rw [if_pos (by omega)]
 have : aW (kJ z 1) ([0].map (·, sz)) [v] = some v.cells := by
  simp [kJ, aW, hb, hl, hz, fB]
 rw [this, Option.map_some, d.eq]
theorem aSr {cs : List V} : aW cs [] [] = some cs := rfl
theorem aSs {o : Nat} {cs ds es : List V} {v : V} {ps : List (Nat × Nat)} {vs : List V} (hs : v.single = true) (ho : o < cs.length) (hd : cs.set o v = ds) (r : aW ds ps vs = some es) : aW cs ((o, 1) :: ps) (v :: vs) = some es := by
 have h1 : v.cells = [v] := by cases v <;> first | rfl | cases hs
 have h2 : v.boxy = true := by cases v <;> first | rfl | cases hs
 have h3 : fB cs o [v] = cs.set o v := by
  rw [fB, List.set_eq_take_append_cons_drop, if_pos ho]; simp
 rw [aW, h1, h2, if_pos ⟨rfl, rfl, ho⟩, h3, hd, r]
theorem aOx {o z : Nat} {cs ds es xs : List V} {ps : List (Nat × Nat)} {vs : List V} (hx : xs.length = z) (ho : o + z ≤ cs.length) (hd : fB cs o xs = ds) (r : aW ds ps vs = some es) : aW cs ((o, z) :: ps) (.agg xs :: vs) = some es := by
 rw [aW, if_pos ⟨rfl, hx, ho⟩]
 show aW (fB cs o xs) ps vs = _
 rw [hd, r]
theorem aRd {z y n m : Nat} {w : Option Nat} {cs ds es : List V} (hc : cs.length = n * z) (hd : ds.length = m * z) (hr : (n + m) * y ≤ room) (he : cs ++ ds = es) : apply s (.app z y) [.sl (some z) n cs, .sl w m ds] H = some (.sl (some z) (n + m) es, H) := by
 subst he
 simp [apply, aQr, eQ, sQ, hc, hd, hr]
theorem aWf {i : Nat} {vs : List V} {v : V} (h : vs[i]? = some v) (hn : v.ntup = some v) : apply s (.ext i) [.tup vs] H = some (v, H) := by
 simp only [apply, aHm, h, Option.bind_some, hn, Option.map_some]
theorem aWg {w : Option Nat} {n : Nat} {cs : List V} {t : List UInt8} (hl : cs.length = n) (h : bytesOf cs = some t) : apply s .b2s [.sl w n cs] H = some (.str t, H) := by
 simp only [apply, aHj, hl, if_true, h, Option.map_some]
theorem aSu {a b : List UInt8} : apply s (.bin .eql) [.str a, .str b] H = some (.bool (a == b), H) := by simp only [EVB, Option.map_some]
theorem aSv {a b : List UInt8} : apply s (.bin .neq) [.str a, .str b] H = some (.bool !(a == b), H) := by simp only [EVB, Option.map_some]
theorem aWh {k j : IntKind} {n m : Int} (h : k.wrap n = m) : apply s (.cvi k) [.int j n] H = some (.int k m, H) := by rw [← h]; rfl
theorem bAn {k j : IntKind} {x y : Int} : apply s .mx [.int k x, .int j y] H = some (.int k (max x y), H) := by
 simp only [apply, aMx, mxn, gt_iff_lt, decide_eq_true_eq, Option.map_some]
 by_cases h : x < y
 ·rw [if_pos h, Int.max_eq_right (by omega)]
 ·rw [if_neg h, Int.max_eq_left (by omega)]
theorem aWi {c : List V} {m : Nat} (hl : H.length = m) : (H ++ [c])[m]? = some c := by subst hl; rw [List.getElem?_append_right (Nat.le_refl _), Nat.sub_self]; rfl
theorem aWj {L : aB} {id : Nat} {c : List V} (h : H[id]? = some c) : (H ++ L)[id]? = some c := by rw [List.getElem?_append_left (List.getElem?_eq_some_iff.1 h).1]; exact h
theorem aWk {id : Nat} {c d : List V} (h : H[id]? = some c) : (H.set id d)[id]? = some d := by rw [List.getElem?_set_self (List.getElem?_eq_some_iff.1 h).1]
theorem bAo {id j : Nat} {c d : List V} (hn : j ≠ id) (h : H[id]? = some c) : (H.set j d)[id]? = some c := by rw [List.getElem?_set_ne hn]; exact h
theorem aWl {c d : List V} {m : Nat} (hl : H.length = m) : (H ++ [c]).set m d = H ++ [d] := by subst hl; rw [List.set_append_right _ _ (Nat.le_refl _), Nat.sub_self]; rfl
theorem aWm {H' L : aB} {id : Nat} {c d : List V} (h : H[id]? = some c) (hs : H.set id d = H') : (H ++ L).set id d = H' ++ L := by rw [List.set_append_left _ _ (List.getElem?_eq_some_iff.1 h).1, hs]
theorem aSw {id : Nat} {c d : List V} : (H.set id c).set id d = H.set id d := by rw [List.set_set]
theorem aSx {l id : Nat} {ok : Nat → Bool} (h : l ≤ id) : bN (some l) id ok = true := by simp [bN, h]
theorem R8 {e : aQ} {G : aB} (h : H.length ≤ G.length) : cK s G e H = H := by
 unfold cK
 split
 ·rw [if_neg (by omega)]
 ·rfl
def KB (l : Nat) (G H : aB) : Prop := ∀ (i : Nat) a b, l ≤ i → G[i]? = some a → H[i]? = some b → a = b ∨ V.rbL G.length b = true
theorem aHu {m : Nat} : ∀ {G H : aB}, (∀ (i : Nat) a b, G[i]? = some a → H[i]? = some b → a = b ∨ V.rbL m b = true) → o7 m G H = true
 | [], _, _ => by simp [o7]
 | _ :: _, [], _ => by simp [o7]
 | g :: G, x :: H, h => by
   simp only [o7, Bool.and_eq_true, Bool.or_eq_true]
   refine ⟨?_, aHu fun i a b h1 h2 => h (i + 1) a b (by simpa using h1) (by simpa using h2)⟩
   exact ((h 0 g x rfl rfl).imp (fun e => by rw [e]; exact iX x) id).symm
theorem aHv {l : Nat} {G : aB} (h : KB l G H) : C9 l G H = true :=
 aHu fun i a b h1 h2 => h (l + i) a b (by omega) (by rwa [List.getElem?_drop] at h1) (by rwa [List.getElem?_drop] at h2)
theorem aOy {l : Nat} : KB l H H := fun i a b _ h1 h2 => .inl (by rw [h1] at h2; cases h2; rfl)
theorem aLe {l : Nat} {G L : aB} (h : KB l G H) (hl : G.length ≤ H.length) : KB l G (H ++ L) := fun i a b hi h1 h2 => by
 have := (List.getElem?_eq_some_iff.1 h1).1
 rw [List.getElem?_append_left (by omega)] at h2
 exact h i a b hi h1 h2
theorem aSy {l id : Nat} {G : aB} {c : List V} (h : KB l G H) (k : V.rbL G.length c = true) : KB l G (H.set id c) := fun i a b hi h1 h2 => by
 rw [List.getElem?_set] at h2
 split at h2
 ·split at h2
  ·cases h2; exact .inr k
  ·cases h2
 ·exact h i a b hi h1 h2
theorem aRe {l : Nat} {e : aQ} {G : aB} (hl : l ≤ G.length) (he : e.all (fun p => p.2.rb G.length) = true) (hm : G.length ≤ H.length) (hk : KB l G H) : cK (some l) G e H = H.take G.length := by
 show (if l ≤ G.length ∧ G.length < H.length ∧ e.all (fun p => p.2.rb G.length) = true ∧ C9 l G H = true then H.take G.length else H) = _
 by_cases h : G.length < H.length
 ·rw [if_pos ⟨hl, h, he, aHv hk⟩]
 ·have : G.length = H.length := by omega
  rw [if_neg (fun k => h k.2.1), this, List.take_length]
theorem aWn {l : Nat} {e : aQ} {G L : aB} (hl : l ≤ G.length) (hm : H.length = G.length) (he : e.all (fun p => p.2.rb G.length) = true) (hk : KB l G H) : cK (some l) G e (H ++ L) = H := by
 rw [aRe hl he (by rw [List.length_append]; omega) (aLe hk (by omega)), ← hm]
 exact List.take_left ..
end
theorem aSz {m : Nat} : ([] : aQ).all (fun p => p.2.rb m) = true := rfl
theorem aOz {m s : Nat} {v : V} {e : aQ} (h : V.rb m v = true) (r : e.all (fun p => p.2.rb m) = true) : ((s, v) :: e : aQ).all (fun p => p.2.rb m) = true := by rw [List.all_cons, h, r]; rfl
theorem aRf {cs : List V} {o : Nat} {v : V} (h : cs[o]? = some v) : (cs[o]?).isSome = true := by rw [h]; rfl
theorem aI {k n m} : V.rb m (.int k n) = true := by simp only [V.rb]
theorem tH {b m} : V.rb m (.bool b) = true := by simp only [V.rb]
theorem pE {o n c m} (h : V.rbL m c = true) : V.rb m (.sl o n c) = true := by simp only [V.rb, h]
theorem jI {m} : V.rbL m [] = true := by simp only [V.rbL]
theorem aD {v r m} (h : V.rb m v = true) (k : V.rbL m r = true) : V.rbL m (v :: r) = true := by simp only [V.rbL, h, k, Bool.and_self]
theorem aLf {a b m} (h : V.rbL m a = true) (k : V.rbL m b = true) : V.rbL m (a ++ b) = true := by
 induction a with
 | nil => exact k
 | cons v r ih =>
   simp only [V.rbL, Bool.and_eq_true, List.cons_append] at *
   exact ⟨h.1, ih h.2⟩
theorem aT0 {c m i v} (h : V.rbL m c = true) (k : V.rb m v = true) : V.rbL m (c.set i v) = true := by
 induction c generalizing i with
 | nil => simpa using h
 | cons x r ih =>
   simp only [V.rbL, Bool.and_eq_true] at h
   cases i with
   | zero => simp only [List.set_cons_zero, V.rbL, k, h.2, Bool.and_self]
   | succ i => simp only [List.set_cons_succ, V.rbL, h.1, ih h.2, Bool.and_self]
theorem aT1 {c m} (h : V.rbL m c = true) : V.rb m (.agg c) = true := by simp only [V.rb, h]
theorem aT2 {i o m} (h : i < m) : V.rb m (.ptr i o) = true := by simp only [V.rb, h, decide_true]
class Frz1 (H : aB) (m : Nat) (v : V) (w : outParam V) : Prop where eq : cA H m v = w
class FrzL (H : aB) (m : Nat) (cs : List V) (ds : outParam (List V)) : Prop where eq : cs.map (cA H m) = ds
class Frz (H : aB) (m : Nat) (v : V) (w : outParam V) : Prop where eq : gL H m v = w
class FrzA (H : aB) (m : Nat) (cs : List V) (ds : outParam (List V)) : Prop where eq : cs.map (gL H m) = ds
instance (priority := low) (H m) (v : V) : Frz1 H m v (cA H m v) := ⟨rfl⟩
instance (priority := low) (H m) (v : V) : Frz H m v (gL H m v) := ⟨rfl⟩
instance (priority := low) (H m) (cs : List V) : FrzL H m cs (cs.map (cA H m)) := ⟨rfl⟩
instance (H m) : FrzL H m [] [] := ⟨rfl⟩
instance (H m) {v w : V} {r s : List V} [h : Frz1 H m v w] [k : FrzL H m r s] : FrzL H m (v :: r) (w :: s) := ⟨by rw [List.map_cons, h.eq, k.eq]⟩
instance (H m) : FrzA H m [] [] := ⟨rfl⟩
instance (H m) {v w : V} {r s : List V} [h : Frz H m v w] [k : FrzA H m r s] : FrzA H m (v :: r) (w :: s) := ⟨by rw [List.map_cons, h.eq, k.eq]⟩
instance (H m) {c d : List V} [h : FrzL H m c d] : Frz H m (.agg c) (.agg d) := ⟨by rw [gL, h.eq]⟩
instance (H m) (b) : Frz1 H m (.bool b) (.bool b) := ⟨rfl⟩
instance (H m) (b) : Frz H m (.bool b) (.bool b) := ⟨rfl⟩
instance (H m) (k n) : Frz1 H m (.int k n) (.int k n) := ⟨rfl⟩
instance (H m) (k n) : Frz H m (.int k n) (.int k n) := ⟨rfl⟩
instance (H m) (l) : Frz1 H m (.str l) (.str l) := ⟨rfl⟩
instance (H m) (l) : Frz H m (.str l) (.str l) := ⟨rfl⟩
instance (H m) (i o) : Frz1 H m (.ptr i o) (.ptr i o) := ⟨rfl⟩
instance (H m) (i o) : Frz H m (.ptr i o) (.ptr i o) := ⟨rfl⟩
instance (H m)  : Frz1 H m (.nilp) (.nilp) := ⟨rfl⟩
instance (H m)  : Frz H m (.nilp) (.nilp) := ⟨rfl⟩
instance (H m) (c i) : Frz1 H m (.fp c i) (.fp c i) := ⟨rfl⟩
instance (H m) (c i) : Frz H m (.fp c i) (.fp c i) := ⟨rfl⟩
instance (H m) (o n c) : Frz1 H m (.sl o n c) (.sl o n c) := ⟨rfl⟩
instance (H m) (o n c) : Frz H m (.sl o n c) (.sl o n c) := ⟨rfl⟩
instance (H m) (f c) : Frz1 H m (.fn f c) (.fn f c) := ⟨rfl⟩
instance (H m) (f c) : Frz H m (.fn f c) (.fn f c) := ⟨rfl⟩
instance (H m)  : Frz1 H m (.nilf) (.nilf) := ⟨rfl⟩
instance (H m)  : Frz H m (.nilf) (.nilf) := ⟨rfl⟩
instance (H m) (t v) : Frz1 H m (.ifc t v) (.ifc t v) := ⟨rfl⟩
instance (H m) (t v) : Frz H m (.ifc t v) (.ifc t v) := ⟨rfl⟩
instance (H m)  : Frz1 H m (.nili) (.nili) := ⟨rfl⟩
instance (H m)  : Frz1 H m (.nls) (.sl none 0 []) := ⟨rfl⟩
instance (H m)  : Frz H m (.nls) (.sl none 0 []) := ⟨rfl⟩
instance (H m)  : Frz H m (.nili) (.nili) := ⟨rfl⟩
theorem aT3 {e : aQ} {H : aB} : aP e H [] = some [] := rfl
theorem bAp {n : Nat} {rs : List Rs} {e : aQ} {H : aB} {v : V} {vs : List V} (h : g e n = some v) (hv : v.noVia = true) (r : aP e H rs = some vs) : aP e H (.t n :: rs) = some (v :: vs) := by
 rw [A7] at h; simp only [aP, M6, h, Option.bind_some, hv, if_true, r, Option.map_some]
theorem aLg {n id o z : Nat} {rs : List Rs} {e : aQ} {H : aB} {cs ds es : List V} {vs : List V} (h : g e n = some (.ptr id o)) (hH : H[id]? = some cs) (hc : (cs.drop o).take z = ds) (hl : ds.length = z) (hn : Nat.beq z 0 = false) (d : DisL ds es) (r : aP e H rs = some vs) : aP e H (.cells n z :: rs) = some (.agg es :: vs) := by
 have hn' : z ≠ 0 := fun k => by subst k; cases hn
 rw [A7] at h; simp only [aP, M6, h, K3 hH, if_pos ((aGo hc hl).resolve_left hn'), hc, Option.map_some, d.eq, Option.bind_some, V.noVia, if_true, r]
theorem f_P {s : Option Nat} {H H0 H' : aB} {vs ws : List V} {v : V} [d : FrzA H' H0.length vs ws] (hr : V.rbL H0.length ws = true) (ht : tie ws = v) : aN .P s H H0 vs H' = some (v, H) := by
 simp only [aN, d.eq, hr, if_true, ht]
theorem f_T {l : Nat} {H H0 H' H'' : aB} {vs : List V} {v : V} (hr : V.rbL H.length vs = true) (hk : C9 l H H' = true) (ht : tie vs = v) (hH : H'.take H.length = H'') : aN .T (some l) H H0 vs H' = some (v, H'') := by
 simp only [aN, hr, hk, Bool.and_self, if_true, ht, hH]
theorem f_K {s : Option Nat} {H H0 H' : aB} {vs : List V} {v : V} (ht : tie vs = v) : aN .K s H H0 vs H' = some (v, H') := by simp only [aN, ht]
theorem bAq {v : V} : tie [v] = v := rfl
theorem aLh {H : aB} : H.take H.length = H := List.take_length ..
theorem aLi {H : aB} {m : Nat} (h : H.length = m) : H.take m = H := by subst h; exact List.take_length ..
theorem aWo {H G : aB} {c d : List V} (h : H.length = G.length) : (H ++ [c]).length = (G ++ [d]).length := by simp [h]
theorem aWp {H : aB} {m id : Nat} {d : List V} (h : H.length = m) : (H.set id d).length = m := by rw [List.length_set, h]
section
variable {β : Type} {T : Tab} {s : Option Nat}
end
end Go.Abs
namespace Go.Abs
class Cel (α : Type) where
 n : Nat
 enc : α → List V
 len : ∀ x, (enc x).length = n
 rb : ∀ m x, V.rbL m (enc x) = true
 dis : ∀ x, (enc x).map V.dis1 = enc x
def enL {α : Type} [Cel α] (l : List α) : List V := l.flatMap Cel.enc
class Expl {α : Type} [Cel α] (x : α) (cs : outParam (List V)) : Prop where eq : Cel.enc x = cs
class FoldL (α : Type) [Cel α] (cs : List V) (xs : outParam (List α)) : Prop where eq : cs = enL xs
theorem aL {α : Type} [Cel α] : enL ([] : List α) = [] := rfl
theorem bL {α : Type} [Cel α] (x : α) (l : List α) : enL (x :: l) = Cel.enc x ++ enL l := by unfold enL; rw [List.flatMap_cons]
theorem aPv {α : Type} [Cel α] (l k : List α) : enL (l ++ k) = enL l ++ enL k := by unfold enL; rw [List.flatMap_append]
theorem xC {α : Type} [Cel α] : ∀ l : List α, (enL l).length = l.length * Cel.n α
 | [] => by rw [aL, List.length_nil, List.length_nil, Nat.zero_mul]
 | x :: l => by rw [bL, List.length_append, Cel.len, xC l, List.length_cons, Nat.succ_mul, Nat.add_comm]
theorem aTv {α : Type} [Cel α] {z : Nat} (l : List α) (h : Cel.n α = z) : (enL l).length = l.length * z := by rw [xC, h]
theorem aMt {α : Type} [Cel α] (l : List α) (h : Cel.n α = 1) : (enL l).length = l.length := by rw [xC, h, Nat.mul_one]
theorem fI {α : Type} [Cel α] (m : Nat) : ∀ l : List α, V.rbL m (enL l) = true
 | [] => jI
 | x :: l => by rw [bL]; exact aLf (Cel.rb m x) (fI m l)
theorem aPw {α : Type} [Cel α] (l : List α) : (enL l).map V.dis1 = enL l := by
 unfold enL; rw [List.map_flatMap]; congr 1; funext x; exact Cel.dis x
theorem X3 {α : Type} [Cel α] : ∀ (l : List α) (i : Nat), (enL l).drop (i * Cel.n α) = enL (l.drop i)
 | l, 0 => by rw [Nat.zero_mul, List.drop_zero, List.drop_zero]
 | [], i + 1 => by rw [aL, List.drop_nil, List.drop_nil, aL]
 | x :: l, i + 1 => by
   rw [bL, Nat.succ_mul, Nat.add_comm, ← Cel.len x, List.drop_length_add_append, Cel.len x, X3 l i, List.drop_succ_cons]
theorem X4 {α : Type} [Cel α] : ∀ (l : List α) (i : Nat), (enL l).take (i * Cel.n α) = enL (l.take i)
 | l, 0 => by rw [Nat.zero_mul, List.take_zero, List.take_zero, aL]
 | [], i + 1 => by rw [aL, List.take_nil, List.take_nil, aL]
 | x :: l, i + 1 => by
   rw [bL, Nat.succ_mul, Nat.add_comm, ← Cel.len x, List.take_length_add_append, Cel.len x, X4 l i, List.take_succ_cons, bL]
theorem I7 {α : Type} [Cel α] {l : List α} {i : Nat} {x : α} (h : l[i]? = some x) : ((enL l).drop (i * Cel.n α)).take (Cel.n α) = Cel.enc x := by
 rw [X3]
 obtain ⟨hl, hx⟩ := List.getElem?_eq_some_iff.1 h
 rw [List.drop_eq_getElem_cons hl, hx, bL, ← Cel.len x, List.take_left]
theorem aPx {α : Type} [Cel α] {l : List α} {i z : Nat} {x : α} {cs : List V} (h : l[i]? = some x) (hz : Cel.n α = z) (he : Expl x cs) : ((enL l).drop (i * z)).take z = cs := by
 subst hz; rw [I7 h, he.eq]
theorem aDk {α : Type} [Cel α] {l : List α} {i z o m : Nat} {x : α} {cs ds : List V} (h : l[i]? = some x) (hz : Cel.n α = z) (he : Expl x cs) (hm : Nat.ble (o + m) z = true) (hd : (cs.drop o).take m = ds) : ((enL l).drop (i * z + o)).take m = ds := by
 have hm := Nat.le_of_ble_eq_true hm
 subst hz
 rw [← List.drop_drop, ← hd, ← he.eq, ← I7 h, List.drop_take, List.take_take, Nat.min_eq_left (by omega)]
theorem aIk {α : Type} [Cel α] {l : List α} {i z j : Nat} {x : α} {cs : List V} {v : V} (h : l[i]? = some x) (hz : Cel.n α = z) (he : Expl x cs) (hj : cs[j]? = some v) : (enL l)[i * z + j]? = some v := by
 subst hz
 have hl : j < Cel.n α := by rw [← Cel.len x, he.eq]; exact (List.getElem?_eq_some_iff.1 hj).1
 rw [← hj, ← he.eq, ← I7 h, List.getElem?_take, if_pos hl, List.getElem?_drop]
theorem aFl {α : Type} [Cel α] {l : List α} {i z : Nat} {x : α} {cs : List V} {v : V} (h : l[i]? = some x) (hz : Cel.n α = z) (he : Expl x cs) (hj : cs[0]? = some v) : (enL l)[i * z]? = some v := aIk h hz he hj
theorem aMu {α : Type} [Cel α] {l : List α} {i : Nat} {x : α} {cs : List V} {v : V} (h : l[i]? = some x) (hz : Cel.n α = 1) (he : Expl x cs) (hj : cs[0]? = some v) : (enL l)[i]? = some v := by
 have := aFl h hz he hj; rwa [Nat.mul_one] at this
instance {α : Type} [Cel α] (l : List α) : DisL (enL l) (enL l) := ⟨aPw l⟩
instance (priority := high) {α : Type} [Cel α] (l : List α) : FoldL α (enL l) l := ⟨rfl⟩
instance {α : Type} [Cel α] : FoldL α [] [] := ⟨rfl⟩
instance : Cel Int := ⟨1, fun x => [.int .i64 x], fun _ => rfl, fun _ _ => aD aI jI, fun _ => rfl⟩
instance (x : Int) : Expl x [.int .i64 x] := ⟨rfl⟩
instance {a : Int} {r : List V} {xs : List Int} [h : FoldL Int r xs] : FoldL Int (.int .i64 a :: r) (a :: xs) := ⟨by rw [bL, ← h.eq]; rfl⟩
instance : Cel UInt8 := ⟨1, fun x => [.int .u8 (x.toNat : Int)], fun _ => rfl, fun _ _ => aD aI jI, fun _ => rfl⟩
instance (x : UInt8) : Expl x [.int .u8 (x.toNat : Int)] := ⟨rfl⟩
instance (priority := high) {a : UInt8} {r : List V} {xs : List UInt8} [h : FoldL UInt8 r xs] : FoldL UInt8 (.int .u8 (a.toNat : Int) :: r) (a :: xs) := ⟨by rw [bL, ← h.eq]; rfl⟩
def b8 (n : Int) : UInt8 := UInt8.ofNat (IntKind.u8.wrap n).toNat
theorem aMv (n : Int) : ((b8 n).toNat : Int) = IntKind.u8.wrap n := by
 have h : 0 ≤ IntKind.u8.wrap n ∧ IntKind.u8.wrap n < 256 := by rw [IntKind.wrap_u8]; omega
 unfold b8
 rw [UInt8.toNat_ofNat']; omega
instance {a : Int} {r : List V} {xs : List UInt8} [h : FoldL UInt8 r xs] : FoldL UInt8 (.int .u8 (IntKind.u8.wrap a) :: r) (b8 a :: xs) := ⟨by
 rw [bL, ← h.eq]; show _ = [V.int .u8 ((b8 a).toNat : Int)] ++ r; rw [aMv]; rfl⟩
instance : Cel Bool := ⟨1, fun x => [.bool x], fun _ => rfl, fun _ _ => aD tH jI, fun _ => rfl⟩
instance (x : Bool) : Expl x [.bool x] := ⟨rfl⟩
instance {a : Bool} {r : List V} {xs : List Bool} [h : FoldL Bool r xs] : FoldL Bool (.bool a :: r) (a :: xs) := ⟨by rw [bL, ← h.eq]; rfl⟩
instance {α : Type} [Cel α] : Cel (List α) := ⟨1, fun l => [.sl none l.length (enL l)], fun _ => rfl, fun m l => aD (pE (fI m l)) jI, fun _ => rfl⟩
instance {α : Type} [Cel α] (l : List α) : Expl l [.sl none l.length (enL l)] := ⟨rfl⟩
instance {α : Type} [Cel α] {a : List α} {r : List V} {xs : List (List α)} [h : FoldL (List α) r xs] : FoldL (List α) (.sl none a.length (enL a) :: r) (a :: xs) := ⟨by rw [bL, ← h.eq]; rfl⟩
instance {α : Type} [Cel α] {r : List V} {xs : List (List α)} [h : FoldL (List α) r xs] : FoldL (List α) (.sl none 0 [] :: r) ([] :: xs) := ⟨by rw [bL, ← h.eq]; rfl⟩
class LenIs {α : Type} (xs : List α) (k : Nat) : Prop where eq : k = xs.length
instance {α : Type} : LenIs ([] : List α) 0 := ⟨rfl⟩
instance {α : Type} {x : α} {xs : List α} {k : Nat} [h : LenIs xs k] : LenIs (x :: xs) (k + 1) := ⟨by rw [h.eq]; rfl⟩
class SlL (α : Type) [Cel α] (v : V) (xs : outParam (List α)) : Prop where eq : v = .sl none xs.length (enL xs)
instance (priority := high) {α : Type} [Cel α] {a : List α} : SlL α (.sl none a.length (enL a)) a := ⟨rfl⟩
instance {α : Type} [Cel α] : SlL α (.sl none 0 []) [] := ⟨rfl⟩
instance (priority := low) {α : Type} [Cel α] {k : Nat} {cs : List V} {a : List α} [h : FoldL α cs a] [l : LenIs a k] : SlL α (.sl none k cs) a := ⟨by rw [h.eq, l.eq]⟩
theorem aFm : ∀ b : List UInt8, bytesOf (enL b) = some b
 | [] => rfl
 | c :: b => by
   have ih := aFm b
   rw [bL]
   show bytesOf (V.int .u8 (c.toNat : Int) :: enL b) = _
   simp [bytesOf, ih]
theorem aTw {s : Option Nat} {H : aB} {α : Type} [Cel α] {z y m : Nat} {w : Option Nat} {l xs : List α} {ds : List V} (hf : FoldL α ds xs) (hz : Cel.n α = z) (hd : ds.length = m * z) (hp : Nat.beq z 0 = false) (hr : (l.length + xs.length) * y ≤ room) :
 apply s (.app z y) [.sl (some z) l.length (enL l), .sl w m ds] H = some (.sl (some z) (l ++ xs).length (enL (l ++ xs)), H) := by
 have hz0 : z ≠ 0 := fun k => by subst k; cases hp
 have e : m = xs.length := by
  have := hd; rw [hf.eq, xC, hz] at this
  exact (Nat.eq_of_mul_eq_mul_right (Nat.pos_of_ne_zero hz0) this).symm
 subst e
 rw [aRd (by rw [xC, hz]) hd hr rfl, hf.eq, ← aPv, List.length_append]
section
variable {s : Option Nat} {H : aB}
theorem aXs {k : IntKind} {a b : Int} (h : b ≠ 0) : apply s (.bin .quo) [.int k a, .int k b] H = some (.int k (k.wrap (a.tdiv b)), H) := by
 simp only [EVB, if_neg h, Option.map_some]
theorem aXt {k : IntKind} {a b : Int} (h : b ≠ 0) : apply s (.bin .rem) [.int k a, .int k b] H = some (.int k (a.tmod b), H) := by
 simp only [EVB, if_neg h, Option.map_some]
theorem aXu {k j : IntKind} {a b : Int} (h : 0 ≤ b) : apply s (.bin .shl) [.int k a, .int j b] H = some (.int k (k.wrap (a * 2 ^ (min b.toNat k.bits))), H) := by
 simp only [EVB, if_neg (Int.not_lt.2 h), Option.map_some]
theorem aXv {k j : IntKind} {a b : Int} (h : 0 ≤ b) : apply s (.bin .shr) [.int k a, .int j b] H = some (.int k (a.fdiv (2 ^ (min b.toNat k.bits))), H) := by
 simp only [EVB, if_neg (Int.not_lt.2 h), Option.map_some]
theorem aMw {k : IntKind} {a b : Int} : apply s (.bin .and) [.int k a, .int k b] H = some (.int k (k.wrap (BitVec.ofInt k.bits a &&& BitVec.ofInt k.bits b).toNat), H) := by
 simp only [EVB, bits, Option.map_some]
theorem aXw {k : IntKind} {a b : Int} : apply s (.bin .or) [.int k a, .int k b] H = some (.int k (k.wrap (BitVec.ofInt k.bits a ||| BitVec.ofInt k.bits b).toNat), H) := by
 simp only [EVB, bits, Option.map_some]
theorem aMy {k : IntKind} {a b : Int} : apply s (.bin .xor) [.int k a, .int k b] H = some (.int k (k.wrap (BitVec.ofInt k.bits a ^^^ BitVec.ofInt k.bits b).toNat), H) := by
 simp only [EVB, bits, Option.map_some]
theorem aXx {k : IntKind} {a : Int} : apply s (.un .neg) [.int k a] H = some (.int k (k.wrap (0 - a)), H) := by
 simp only [EVB, Option.map_some]
theorem aTx {w : Option Nat} {l : List UInt8} : apply s .b2s [.sl w l.length (enL l)] H = some (.str l, H) := aWg (aMt l rfl) (aFm l)
theorem aTy {z y n id off r p : Nat} {i : Int} {k : IntKind} (h0 : 0 ≤ i) (h : i < (n : Int)) (hp : off + i.toNat * z = p) : apply s (.ix z) [.ar y id off n r, .int k i] H = some (.ptr id p, H) := by
 rw [← hp, EVA.2.2.2.1, if_pos ⟨h0, h⟩]
end
section
variable {s : Option Nat} {H : aB} {α : Type} [Cel α]
theorem aPy {l : List α} {z : Nat} {h : Int} {j : IntKind} (hz : Cel.n α = z) (h0 : 0 ≤ h) (h1 : h ≤ (l.length : Int)) : apply s (.slc z false true) [.sl none l.length (enL l), .int j h] H = some (.sl none (l.take h.toNat).length (enL (l.take h.toNat)), H) := by
 subst hz
 have e : h.toNat ≤ l.length := by omega
 have e1 : qH false true l.length [.int j h] = some (0, h.toNat) := by show (if _ then _ else _) = _; rw [if_pos ⟨h0, h1⟩]
 have e2 : (if (h.toNat = l.length ∧ (none : Option Nat) = some (Cel.n α)) then (none : Option Nat) else none) = none := by split <;> rfl
 show ((qH false true l.length [.int j h]).bind _).map _ = _
 rw [e1, Option.bind_some]
 show (if (enL l).length = l.length * Cel.n α then some (V.sl _ _ _) else none).map _ = _
 rw [if_pos (xC l), e2, Nat.zero_mul, List.drop_zero, Nat.sub_zero, X4, List.length_take, Nat.min_eq_left e]
 rfl
theorem aPz {l : List α} {z : Nat} {h k : Int} {i j : IntKind} (hz : Cel.n α = z) (h0 : 0 ≤ h) (h1 : h ≤ k) (h2 : k ≤ (l.length : Int)) : apply s (.slc z true true) [.sl none l.length (enL l), .int i h, .int j k] H = some (.sl none ((l.drop h.toNat).take (k.toNat - h.toNat)).length (enL ((l.drop h.toNat).take (k.toNat - h.toNat))), H) := by
 subst hz
 have e : k.toNat - h.toNat ≤ l.length - h.toNat := by omega
 have e1 : qH true true l.length [.int i h, .int j k] = some (h.toNat, k.toNat) := by show (if _ then _ else _) = _; rw [if_pos ⟨h0, h1, h2⟩]
 have e2 : (if (k.toNat = l.length ∧ (none : Option Nat) = some (Cel.n α)) then (none : Option Nat) else none) = none := by split <;> rfl
 show ((qH true true l.length [.int i h, .int j k]).bind _).map _ = _
 rw [e1, Option.bind_some]
 show (if (enL l).length = l.length * Cel.n α then some (V.sl _ _ _) else none).map _ = _
 rw [if_pos (xC l), e2, X3, X4, List.length_take, List.length_drop, Nat.min_eq_left e]
 rfl
end
section
variable {s : Option Nat} {H : aB}
theorem aTz {z y m : Nat} {w : Option Nat} {ds es : List V} (hm : m ≠ 0) (hd : ds.length = m * z) (hr : m * y ≤ room) (d : DisL ds es) :
 apply s (.apg z y) [.nls, .sl w m ds] H = some (.ar z H.length 0 m m, H ++ [es]) := by
 simp only [apply, Z5, sQ, hd, if_true, Option.bind_some, hr, if_neg hm, d.eq]
theorem aMz {z y n m k id : Nat} {x : V} {us es cs ds : List V} {H' : aB} (h : H[id]? = some cs) (hm : bN s id (fun _ => true) = true) (ht : sQ z x H = some (m, us)) (d : DisL us es) (hk : k < n + m) (hc : cs ≠ []) (hl : n * z ≤ cs.length) (hr : (n + m) * y ≤ room)
 (hd : cs.take (n * z) ++ es = ds) (hH : H.set id [] = H') : apply s (.apg z y) [.ar z id 0 n k, x] H = some (.ar z H.length 0 (n + m) (n + m), H' ++ [ds]) := by
 have hk' : ¬ n + m ≤ k := by omega
 simp only [apply, Z5, hm, and_self, if_true, h, Option.bind_some, ht, if_neg hk', d.eq, hd, hH]
 rw [if_pos ⟨trivial, hc, hl, hr⟩]
theorem aXy {z m : Nat} {w : Option Nat} {ds : List V} (hd : ds.length = m * z) : sQ z (.sl w m ds) H = some (m, ds) := by simp only [sQ, hd, if_true]
end
theorem aK6 {i : Nat} (h : (i : Int) < 9223372036854775807) : IntKind.i64.wrap ((i : Int) + 1) = ((i + 1 : Nat) : Int) := by
 rw [IntWalk.i64_in _ (by omega)]; omega
theorem aXz {β σ : Type} {T : Tab} {s : Option Nat} {c : C} {κ : oY → Option β} {Y : Option β → Prop} (n : Nat) (E : Nat → σ → aQ) (H : Nat → σ → aB) (P : Nat → σ → Prop)
 (step : ∀ i t, i < n → P i t → (∀ t', P (i + 1) t' → Ev (R T s (.loop c) (E (i + 1) t') (H (i + 1) t') κ) Y) → Ev (R T s (.loop c) (E i t) (H i t) κ) Y)
 (fin : ∀ t, P n t → Ev (R T s (.loop c) (E n t) (H n t) κ) Y) (t : σ) (h : P 0 t) {e0 : aQ} {H0 : aB} (he : E 0 t = e0 := by first | rfl | (simp only [aL, List.length_nil]; rfl)) (hH : H 0 t = H0 := by first | rfl | (simp only [aL, List.length_nil]; rfl)) : Ev (R T s (.loop c) e0 H0 κ) Y := by
 subst he hH
 have : ∀ k i t, i + k = n → P i t → Ev (R T s (.loop c) (E i t) (H i t) κ) Y := by
  intro k
  induction k with
  | zero => intro i t hi hp; obtain rfl : i = n := by omega
            exact fin t hp
  | succ k ih => intro i t hi hp; exact step i t (by omega) hp fun t' h' => ih (i + 1) t' (by omega) h'
 exact this n 0 t (by omega) h
end Go.Abs
