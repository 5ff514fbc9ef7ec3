/- A part of the proof of RowSpeakOffers, RowSpeakMessages: lemmas alone, without conditions. -/
import Derived.Test.YtpcnjabfiahhhaaGreatDoorK13
import Derived.IntWalk
set_option linter.all false
namespace Go.Abs
class Dis1 (v : V) (w : outParam V) : Prop where eq : v.dis1 = w
class DisL (cs : List V) (ds : outParam (List V)) : Prop where eq : cs.map V.dis1 = ds
class Dis2 (v : V) (w : outParam V) : Prop where eq : v.dis2 = w
class DisT (cs : List V) (ds : outParam (List V)) : Prop where eq : cs.map V.dis2 = ds
class Dis (v : V) (w : outParam V) : Prop where eq : v.dis = w
instance (priority := low) dis1_any (v : V) : Dis1 v v.dis1 := ⟨rfl⟩
instance (priority := low) dis2_any (v : V) : Dis2 v v.dis2 := ⟨rfl⟩
instance (priority := low) dis_any (v : V) : Dis v v.dis := ⟨rfl⟩
instance (priority := low) disL_any (cs : List V) : DisL cs (cs.map V.dis1) := ⟨rfl⟩
instance (priority := low) disT_any (cs : List V) : DisT cs (cs.map V.dis2) := ⟨rfl⟩
instance : DisL [] [] := ⟨rfl⟩
instance {v w : V} {r s : List V} [h : Dis1 v w] [k : DisL r s] : DisL (v :: r) (w :: s) := ⟨by rw [List.map_cons, h.eq, k.eq]⟩
instance : DisT [] [] := ⟨rfl⟩
instance {v w : V} {r s : List V} [h : Dis2 v w] [k : DisT r s] : DisT (v :: r) (w :: s) := ⟨by rw [List.map_cons, h.eq, k.eq]⟩
instance (b) : Dis1 (.bool b) (.bool b) := ⟨rfl⟩
instance (k n) : Dis1 (.int k n) (.int k n) := ⟨rfl⟩
instance (l) : Dis1 (.str l) (.str l) := ⟨rfl⟩
instance (i o) : Dis1 (.ptr i o) (.ptr i o) := ⟨rfl⟩
instance : Dis1 .nilp .nilp := ⟨rfl⟩
instance (c i) : Dis1 (.fp c i) (.fp c i) := ⟨rfl⟩
instance (o n c) : Dis1 (.sl o n c) (.sl none n c) := ⟨rfl⟩
instance (i o n c) : Dis1 (.via i o n c) (.sl none n c) := ⟨rfl⟩
instance (a b c d r) : Dis1 (.ar a b c d r) (.ar a b c d r) := ⟨rfl⟩
instance : Dis1 .nls .nls := ⟨rfl⟩
instance (f c) : Dis1 (.fn f c) (.fn f c) := ⟨rfl⟩
instance : Dis1 .nilf .nilf := ⟨rfl⟩
instance (t v) : Dis1 (.ifc t v) (.ifc t v) := ⟨rfl⟩
instance : Dis1 .nili .nili := ⟨rfl⟩
instance (b) : Dis2 (.bool b) (.bool b) := ⟨rfl⟩
instance (k n) : Dis2 (.int k n) (.int k n) := ⟨rfl⟩
instance (l) : Dis2 (.str l) (.str l) := ⟨rfl⟩
instance (i o) : Dis2 (.ptr i o) (.ptr i o) := ⟨rfl⟩
instance : Dis2 .nilp .nilp := ⟨rfl⟩
instance (c i) : Dis2 (.fp c i) (.fp c i) := ⟨rfl⟩
instance (o n c) : Dis2 (.sl o n c) (.sl none n c) := ⟨rfl⟩
instance (a b c d r) : Dis2 (.ar a b c d r) (.ar a b c d r) := ⟨rfl⟩
instance : Dis2 .nls .nls := ⟨rfl⟩
instance (f c) : Dis2 (.fn f c) (.fn f c) := ⟨rfl⟩
instance : Dis2 .nilf .nilf := ⟨rfl⟩
instance (t v) : Dis2 (.ifc t v) (.ifc t v) := ⟨rfl⟩
instance : Dis2 .nili .nili := ⟨rfl⟩
instance {c d : List V} [h : DisL c d] : Dis2 (.agg c) (.agg d) := ⟨by rw [V.dis2, h.eq]⟩
instance (b) : Dis (.bool b) (.bool b) := ⟨rfl⟩
instance (k n) : Dis (.int k n) (.int k n) := ⟨rfl⟩
instance (l) : Dis (.str l) (.str l) := ⟨rfl⟩
instance (i o) : Dis (.ptr i o) (.ptr i o) := ⟨rfl⟩
instance : Dis .nilp .nilp := ⟨rfl⟩
instance (c i) : Dis (.fp c i) (.fp c i) := ⟨rfl⟩
instance (o n c) : Dis (.sl o n c) (.sl none n c) := ⟨rfl⟩
instance (i o n c) : Dis (.via i o n c) (.sl none n c) := ⟨rfl⟩
instance (a b c d r) : Dis (.ar a b c d r) (.ar a b c d r) := ⟨rfl⟩
instance : Dis .nls .nls := ⟨rfl⟩
instance (f c) : Dis (.fn f c) (.fn f c) := ⟨rfl⟩
instance : Dis .nilf .nilf := ⟨rfl⟩
instance (t v) : Dis (.ifc t v) (.ifc t v) := ⟨rfl⟩
instance : Dis .nili .nili := ⟨rfl⟩
instance {c d : List V} [h : DisL c d] : Dis (.agg c) (.agg d) := ⟨by rw [V.dis, h.eq]⟩
instance {c d : List V} [h : DisT c d] : Dis (.tup c) (.tup d) := ⟨by rw [V.dis, h.eq]⟩
class Cells (v : V) (cs : outParam (List V)) : Prop where
 eq : v.cells = cs
 bx : v.boxy = true
instance (b) : Cells (.bool b) [.bool b] := ⟨rfl, rfl⟩
instance (k n) : Cells (.int k n) [.int k n] := ⟨rfl, rfl⟩
instance (l) : Cells (.str l) [.str l] := ⟨rfl, rfl⟩
instance (i o) : Cells (.ptr i o) [.ptr i o] := ⟨rfl, rfl⟩
instance : Cells .nilp [.nilp] := ⟨rfl, rfl⟩
instance (o n c) : Cells (.sl o n c) [.sl o n c] := ⟨rfl, rfl⟩
instance (a b c d r) : Cells (.ar a b c d r) [.ar a b c d r] := ⟨rfl, rfl⟩
instance : Cells .nls [.nls] := ⟨rfl, rfl⟩
instance (f c) : Cells (.fn f c) [.fn f c] := ⟨rfl, rfl⟩
instance : Cells .nilf [.nilf] := ⟨rfl, rfl⟩
instance (t v) : Cells (.ifc t v) [.ifc t v] := ⟨rfl, rfl⟩
instance : Cells .nili [.nili] := ⟨rfl, rfl⟩
instance (c) : Cells (.agg c) c := ⟨rfl, rfl⟩
def g : aZ → Nat → Option V
 | [], _ => none
 | (s, v) :: e, t => match Nat.beq s t with | true => some v | false => g e t
theorem s4 : ∀ (e : aZ) (t : Nat), g e t = eget e t
 | [], _ => rfl
 | (s, v) :: e, t => by
   unfold g eget
   by_cases h : s = t
   ·subst h; rw [Nat.beq_refl, if_pos rfl]
   ·have : Nat.beq s t = false := by cases hb : Nat.beq s t with | false => rfl | true => exact absurd (Nat.eq_of_beq_eq_true hb) h
    rw [this, if_neg h]; exact s4 e t
def eh : aZ → Nat → Bool
 | [], _ => false
 | (s, _) :: e, t => match Nat.beq s t with | true => true | false => eh e t
theorem aIr : ∀ {e : aZ} {t : Nat}, eh e t = false → bW e t = e
 | [], _, _ => rfl
 | (s, v) :: e, t, h => by
   unfold eh at h
   split at h
   ·cases h
   ·rename_i hb
    have : s ≠ t := fun k => by subst k; rw [Nat.beq_refl] at hb; cases hb
    unfold bW
    rw [if_neg this, aIr h]
theorem aXz {t : Nat} : bW [] t = [] := rfl
theorem aY0 {t : Nat} {v : V} {e e' : aZ} (h : bW e t = e') : bW ((t, v) :: e) t = e' := by unfold bW; rw [if_pos rfl]; exact h
theorem aUc {s t : Nat} {v : V} {e e' : aZ} (hb : Nat.beq s t = false) (h : bW e t = e') : bW ((s, v) :: e) t = (s, v) :: e' := by
 have : s ≠ t := fun k => by subst k; rw [Nat.beq_refl] at hb; cases hb
 unfold bW; rw [if_neg this, h]
def lc : List Nat → Nat → Bool
 | [], _ => false
 | a :: l, t => match Nat.beq a t with | true => true | false => lc l t
theorem aM9 : ∀ (l : List Nat) (t : Nat), lc l t = l.contains t
 | [], _ => rfl
 | a :: l, t => by
   unfold lc
   rw [List.contains_cons]
   by_cases h : a = t
   ·subst h; rw [Nat.beq_refl]; simp
   ·have : Nat.beq a t = false := by cases hb : Nat.beq a t with | false => rfl | true => exact absurd (Nat.eq_of_beq_eq_true hb) h
    rw [this]
    have : (t == a) = false := by simpa using fun k => h k.symm
    rw [this, Bool.false_or]; exact aM9 l t
theorem aY1 {l : List Nat} : bZ l [] = [] := rfl
theorem aY2 {s : Nat} {v : V} : eJ s v [] = [(s, v)] := rfl
theorem aUd {s t : Nat} {v u : V} {e : aZ} (h : Nat.ble s t = true) : eJ s v ((t, u) :: e) = (s, v) :: (t, u) :: e := by unfold eJ; rw [h]
theorem aUe {s t : Nat} {v u : V} {e e' : aZ} (h : Nat.ble s t = false) (r : eJ s v e = e') : eJ s v ((t, u) :: e) = (t, u) :: e' := by unfold eJ; rw [h, r]
theorem bC4 {l : List Nat} {s : Nat} {v : V} {e e' e'' : aZ} (h : lc l s = true) (r : bZ l e = e') (i : eJ s v e' = e'') : bZ l ((s, v) :: e) = e'' := by
 rw [aM9] at h; unfold bZ; rw [if_pos h, r, i]
theorem aY3 {l : List Nat} {s : Nat} {v : V} {e e' : aZ} (h : lc l s = false) (r : bZ l e = e') : bZ l ((s, v) :: e) = e' := by
 rw [aM9] at h; unfold bZ; rw [if_neg (by rw [h]; exact Bool.false_ne_true), r]
theorem aY4 {e : aZ} : fT [] e = some ([], e) := rfl
theorem x_t {n : Nat} {xs : List X} {e e1 : aZ} {v w : V} {ws : List V} (h : g e n = some v) (d : Dis v w) (r : fT xs e = some (ws, e1)) : fT (.t n :: xs) e = some (w :: ws, e1) := by
 rw [s4] at h
 simp only [fT, gQ, h, Option.map_some, Option.bind_some, r, d.eq]
theorem x_m {n : Nat} {xs : List X} {e e1 e2 : aZ} {v : V} {ws : List V} (h : g e n = some v) (hd : bW e n = e1) (r : fT xs e1 = some (ws, e2)) : fT (.m n :: xs) e = some (v :: ws, e2) := by
 rw [s4] at h
 simp only [fT, gQ, h, Option.map_some, Option.bind_some, hd, r]
theorem x_k {v : V} {xs : List X} {e e1 : aZ} {ws : List V} (r : fT xs e = some (ws, e1)) : fT (.k v :: xs) e = some (v :: ws, e1) := by
 simp only [fT, gQ, Option.map_some, Option.bind_some, r]
theorem e_t {n : Nat} {e : aZ} {v w : V} (h : g e n = some v) (d : Dis v w) : gQ (.t n) e = some (w, e) := by
 rw [s4] at h; simp only [gQ, h, Option.map_some, d.eq]
theorem e_m {n : Nat} {e e1 : aZ} {v : V} (h : g e n = some v) (hd : bW e n = e1) : gQ (.m n) e = some (v, e1) := by
 rw [s4] at h; simp only [gQ, h, Option.map_some, hd]
theorem e_k {v : V} {e : aZ} : gQ (.k v) e = some (v, e) := rfl
section
variable {β : Type} {T : Tab} {s : Option Nat}
theorem bC5 {d : Nat} {o : O} {xs : List X} {rs} {e e1 e2 : aZ} {H H1 : aC} {vs : List V} {v : V} {κ : aZ × aC → Option β} {Y : Option β → Prop} (hx : fT xs e = some (vs, e1)) (ha : apply s o vs H = some (v, H1)) (hw : (!o.writes || qD e1) = true) (hd : bW e1 d = e2)
 (k : Ev (RR T s rs ((d, v) :: e2) H1 κ) Y) : Ev (RR T s ((some d, none, .op o xs) :: rs) e H κ) Y := by
 refine zI ?_ k
 simp only [oG, step, hx, Option.bind_some, hw, if_true, ha, Option.map_some, vJ, vB, hd]
theorem aY5 {o : O} {xs : List X} {rs} {e e1 : aZ} {H H1 : aC} {vs : List V} {v : V} {κ : aZ × aC → Option β} {Y : Option β → Prop} (hx : fT xs e = some (vs, e1)) (ha : apply s o vs H = some (v, H1)) (hw : (!o.writes || qD e1) = true)
 (k : Ev (RR T s rs e1 H1 κ) Y) : Ev (RR T s ((none, none, .op o xs) :: rs) e H κ) Y := by
 refine zI ?_ k
 simp only [oG, step, hx, Option.bind_some, hw, if_true, ha, Option.map_some, aPh]
theorem bC6 {d : Nat} {x : X} {rs} {e e1 e2 : aZ} {H : aC} {v : V} {κ : aZ × aC → Option β} {Y : Option β → Prop} (hx : gQ x e = some (v, e1)) (hd : bW e1 d = e2)
 (k : Ev (RR T s rs ((d, v) :: e2) H κ) Y) : Ev (RR T s ((some d, none, .mv x) :: rs) e H κ) Y := by
 refine zI ?_ k
 simp only [oG, step, hx, Option.map_some, vJ, vB, hd]
theorem aUf {d : Nat} {f : FuncId} {xs : List X} {rs} {e e1 e2 : aZ} {H H1 : aC} {vs : List V} {v : V} {κ : aZ × aC → Option β} {Y : Option β → Prop} (hx : fT xs e = some (vs, e1)) (ha : Call T s f vs H = some (v, H1)) (hw : (T.pu f || qD e1) = true) (hd : bW e1 d = e2)
 (k : Ev (RR T s rs ((d, v) :: e2) H1 κ) Y) : Ev (RR T s ((some d, none, .call f xs 0) :: rs) e H κ) Y := by
 refine zI ?_ k
 simp only [oG, step, hx, Option.bind_some, hw, if_true, L8 (nw := 0) (args := vs) (H := H) ha rfl, Option.map_some, vJ, vB, hd]
theorem nU {i o : Nat} {vs : List V} {H H1 : aC} (h : sJ i H H1 = true) : okN 3 (.ptr i o :: vs) H H1 = true := h
theorem aR8 {d nw : Nat} {f : FuncId} {xs : List X} {rs} {e e1 e2 : aZ} {H H1 : aC} {vs : List V} {v : V} {κ : aZ × aC → Option β} {Y : Option β → Prop} (hx : fT xs e = some (vs, e1)) (ha : Call T s f vs H = some (v, H1)) (hn : okN nw vs H H1 = true) (hw : (T.pu f || qD e1) = true) (hd : bW e1 d = e2)
 (k : Ev (RR T s rs ((d, v) :: e2) H1 κ) Y) : Ev (RR T s ((some d, none, .call f xs nw) :: rs) e H κ) Y := by
 refine zI ?_ k
 simp only [oG, step, hx, Option.bind_some, hw, if_true, L8 (nw := nw) (args := vs) ha hn, Option.map_some, vJ, vB, hd]
theorem aY6 {d i t : Nat} {rs} {e e1 e2 : aZ} {H : aC} {vs ws : List V} {v w : V} {κ : aZ × aC → Option β} {Y : Option β → Prop} (h : g e t = some (.tup vs)) (hv : vs[i]? = some v) (hn : v.ntup = some v) [dw : Dis2 v w] (hs : vs.set i w = ws) (he : bW e t = e1) (hd : bW ((t, .tup ws) :: e1) d = e2)
 (k : Ev (RR T s rs ((d, v) :: e2) H κ) Y) : Ev (RR T s ((some d, none, .exm i t) :: rs) e H κ) Y := by
 rw [s4] at h
 refine zI ?_ k
 simp only [oG, step, h, hv, Option.bind_some, hn, Option.map_some, vJ, vB, dw.eq, hs, he, hd]
theorem aY7 {d : Option Nat} {q : Nat} {c : Bool} {i : I} {rs} {e : aZ} {H : aC} {κ : aZ × aC → Option β} {Y : Option β → Prop} (hg : g e q = some (.bool c)) (hc : c = true) (h : Ev (RR T s ((d, none, i) :: rs) e H κ) Y) : Ev (RR T s ((d, some (q, true), i) :: rs) e H κ) Y := by
 rw [s4] at hg; subst hc; exact bBg hg h
theorem aY8 {d : Option Nat} {q : Nat} {c : Bool} {i : I} {rs} {e : aZ} {H : aC} {κ : aZ × aC → Option β} {Y : Option β → Prop} (hg : g e q = some (.bool c)) (hc : c = false) (h : Ev (RR T s ((d, none, i) :: rs) e H κ) Y) : Ev (RR T s ((d, some (q, false), i) :: rs) e H κ) Y := by
 rw [s4] at hg; subst hc; exact bBg hg h
theorem aUg {d : Nat} {q : Nat} {c : Bool} {i : I} {rs} {e e1 : aZ} {H : aC} {κ : aZ × aC → Option β} {Y : Option β → Prop} (hg : g e q = some (.bool c)) (hc : c = true) (hd : bW e d = e1) (h : Ev (RR T s rs ((d, .tup []) :: e1) H κ) Y) : Ev (RR T s ((some d, some (q, false), i) :: rs) e H κ) Y := by
 rw [s4] at hg; subst hc; exact bBh hg (by rw [← hd]; rfl) h
theorem aUh {d : Nat} {q : Nat} {c : Bool} {i : I} {rs} {e e1 : aZ} {H : aC} {κ : aZ × aC → Option β} {Y : Option β → Prop} (hg : g e q = some (.bool c)) (hc : c = false) (hd : bW e d = e1) (h : Ev (RR T s rs ((d, .tup []) :: e1) H κ) Y) : Ev (RR T s ((some d, some (q, true), i) :: rs) e H κ) Y := by
 rw [s4] at hg; subst hc; exact bBh hg (by rw [← hd]; rfl) h
variable {H : aC}
theorem bC7 {f id o p : Nat} (h : o + f = p) : apply s (.fa f) [.ptr id o] H = some (.ptr id p, H) := by rw [← h]; rfl
theorem aUi {f o p : Nat} {c : List V} (h : o + f = p) : apply s (.fa f) [.fp c o] H = some (.fp c p, H) := by rw [← h]; rfl
theorem bC8 {id o : Nat} : apply s .nc [.ptr id o] H = some (.ptr id o, H) := rfl
theorem bC9 {id o : Nat} {cs : List V} {v w : V} (h : H[id]? = some cs) (hc : cs[o]? = some v) [d : Dis1 v w] : apply s .ld [.ptr id o] H = some (w, H) := by
 have := EVA.2.2.2.2.2.2.1 s id o H
 rw [this, L7 h, hc, Option.map_some, d.eq]
theorem aUj {o : Nat} {cs : List V} {v w : V} (hc : cs[o]? = some v) [d : Dis1 v w] : apply s .ld [.fp cs o] H = some (w, H) := by
 have := EVA.2.2.2.2.2.2.2.1 s cs o H
 rw [this, hc, Option.map_some, d.eq]
theorem aH9 {o n : Nat} {cs ds : List V} (h : (cs.drop o).take n = ds) (hl : ds.length = n) : n = 0 ∨ o + n ≤ cs.length := by
 rw [← h, List.length_take, List.length_drop] at hl; omega
theorem aY9 {id o n : Nat} {cs ds es : List V} (h : H[id]? = some cs) (hc : (cs.drop o).take n = ds) (hl : ds.length = n) (hn : Nat.beq n 0 = false) [d : DisL ds es] : apply s (.ldn n) [.ptr id o] H = some (.agg es, H) := by
 have := EVA.2.2.2.2.2.2.2.2.1 s n id o H
 have hn' : n ≠ 0 := fun k => by subst k; cases hn
 rw [this, B4 h, if_pos ((aH9 hc hl).resolve_left hn'), hc, Option.map_some, d.eq]
theorem aR9 {o n : Nat} {cs ds es : List V} (hc : (cs.drop o).take n = ds) (hl : ds.length = n) (hn : Nat.beq n 0 = false) [d : DisL ds es] : apply s (.ldn n) [.fp cs o] H = some (.agg es, H) := by
 have := EVA.2.2.2.2.2.2.2.2.2.1 s n cs o H
 have hn' : n ≠ 0 := fun k => by subst k; cases hn
 rw [this, if_pos ((aH9 hc hl).resolve_left hn'), hc, d.eq]
theorem bCa {id o z n : Nat} {cs c : List V} (h : H[id]? = some cs) (hc : cs[o]? = some (.sl (some z) n c)) : apply s .lv [.ptr id o] H = some (.via id o n c, H) := by
 have := EVA.2.2.2.2.2.2.2.2.2.2.1 s id o H
 rw [this, L7 h, hc]; rfl
theorem aYa {z n i p : Nat} {w : Option Nat} {c : List V} {k : IntKind} (h : i < n) (hp : i * z = p) : apply s (.ix z) [.sl w n c, .int k (i : Nat)] H = some (.fp c p, H) := by
 rw [← hp, EVA.2.2.1, if_pos ⟨by omega, by omega⟩, Int.toNat_natCast]
theorem aYb {z n p : Nat} {i : Int} {w : Option Nat} {c : List V} {k : IntKind} (h0 : 0 ≤ i) (h : i < (n : Int)) (hp : i.toNat * z = p) : apply s (.ix z) [.sl w n c, .int k i] H = some (.fp c p, H) := by
 rw [← hp, EVA.2.2.1, if_pos ⟨h0, h⟩]
theorem aYc {k : IntKind} {a b : Int} : apply s (.bin .lss) [.int k a, .int k b] H = some (.bool (decide (a < b)), H) := by simp only [EVB, Option.map_some]
theorem aYd {k : IntKind} {a b : Int} : apply s (.bin .leq) [.int k a, .int k b] H = some (.bool (decide (a ≤ b)), H) := by simp only [EVB, Option.map_some]
theorem aYe {k : IntKind} {a b : Int} : apply s (.bin .gtr) [.int k a, .int k b] H = some (.bool (decide (b < a)), H) := by simp only [EVB, Option.map_some]
theorem aYf {k : IntKind} {a b : Int} : apply s (.bin .geq) [.int k a, .int k b] H = some (.bool (decide (b ≤ a)), H) := by simp only [EVB, Option.map_some]
theorem aYg {k : IntKind} {a b : Int} : apply s (.bin .eql) [.int k a, .int k b] H = some (.bool (a == b), H) := by simp only [EVB, Option.map_some]
theorem aYh {k : IntKind} {a b : Int} : apply s (.bin .neq) [.int k a, .int k b] H = some (.bool (a != b), H) := by simp only [EVB, Option.map_some]
theorem aYi {k : IntKind} {a b c : Int} (h : k.wrap (a + b) = c) : apply s (.bin .add) [.int k a, .int k b] H = some (.int k c, H) := by simp only [EVB, Option.map_some, h]
theorem aYj {k : IntKind} {a b c : Int} (h : k.wrap (a - b) = c) : apply s (.bin .sub) [.int k a, .int k b] H = some (.int k c, H) := by simp only [EVB, Option.map_some, h]
theorem aYk {k : IntKind} {a b c : Int} (h : k.wrap (a * b) = c) : apply s (.bin .mul) [.int k a, .int k b] H = some (.int k c, H) := by simp only [EVB, Option.map_some, h]
theorem aUk {a b : Bool} : apply s (.beq false) [.bool a, .bool b] H = some (.bool (a == b), H) := by simp only [EVB, Bool.false_bne]
theorem aUl {a b : Bool} : apply s (.beq true) [.bool a, .bool b] H = some (.bool (a != b), H) := by simp only [EVB]; cases a <;> cases b <;> rfl
theorem aYl {a : Bool} : apply s (.un .not) [.bool a] H = some (.bool !a, H) := by simp only [EVB, Option.map_some]
theorem aYm {w : Option Nat} {n : Nat} {c : List V} : apply s (.len false) [.sl w n c] H = some (.int .i64 n, H) := rfl
theorem aRa {a b c n r : Nat} : apply s (.len false) [.ar a b c n r] H = some (.int .i64 n, H) := rfl
theorem aMa : apply s (.len false) [.nls] H = some (.int .i64 0, H) := rfl
theorem aYn {n : Nat} {v : V} {cs : List V} [hc : Cells v cs] (hl : cs.length = n) : apply s (.box n) [v] H = some (.ptr H.length 0, H ++ [cs]) := by
 have := hc.eq; subst this; subst hl; simp [apply, aKe, hc.bx]
theorem aYo {z : List V} : apply s (.alc z) [] H = some (.ptr H.length 0, H ++ [z]) := rfl
theorem bCb {id o : Nat} {v : V} {cs ds : List V} {H' : aC} (h : H[id]? = some cs) (ho : (cs[o]?).isSome = true) (hs : v.single = true) (hm : cR s id (fun m => v.rb m) = true) (hd : cs.set o v = ds) (hH : H.set id ds = H') : apply s .st [.ptr id o, v] H = some (.tup [], H') := by
 have := EVA.2.2.2.2.2.2.2.2.2.2.2.2.2.2.1 s id o v H
 rw [this, hs, L7 h, ho, hm, aIz h, hd, hH]; rfl
theorem aYp {n id o : Nat} {xs cs ds : List V} {H' : aC} (h : H[id]? = some cs) (hx : xs.length = n) (ho : o + n ≤ cs.length) (hm : cR s id (fun m => V.rbL m xs) = true) (hd : iL cs o xs = ds) (hH : H.set id ds = H') : apply s (.stn n) [.ptr id o, .agg xs] H = some (.tup [], H') := by
 have := EVA.2.2.2.2.2.2.2.2.2.2.2.2.2.2.2.1 s n id o xs H
 rw [this, B4 h, if_pos ho, hm, h]
 simp [hx, hd, hH]
theorem aYq {z : List V} {ps : List (Nat × Nat)} {vs cs : List V} (h : bR z ps vs = some cs) : apply s (.bld z ps) vs H = some (.agg cs, H) := by
 have := EVA.2.2.2.2.2.2.2.2.2.2.2.2.2.2.2.2.2.2.2.2.2.2.2.1 s z ps vs H
 rw [this, h]; rfl
theorem aUm {sz : Nat} {z cs ds : List V} {v : V} [hc : Cells v cs] (hl : cs.length = sz) (hz : z.length = sz) (hs : sz ≤ 16777216) [d : DisL cs ds] : apply s (.bsl sz z 1 [0]) [v] H = some (.sl (some sz) 1 ds, H) := by
 have := hc.eq; subst this
 have hb := hc.bx
 simp only [apply]
 rw [if_pos (by omega)]
 have : bR (lN z 1) ([0].map (·, sz)) [v] = some v.cells := by
  simp [lN, bR, hb, hl, hz, iL]
 rw [this, Option.map_some, d.eq]
theorem aUo {cs : List V} : bR cs [] [] = some cs := rfl
theorem aUp {o : Nat} {cs ds es : List V} {v : V} {ps : List (Nat × Nat)} {vs : List V} (hs : v.single = true) (ho : o < cs.length) (hd : cs.set o v = ds) (r : bR ds ps vs = some es) : bR cs ((o, 1) :: ps) (v :: vs) = some es := by
 have h1 : v.cells = [v] := by cases v <;> first | rfl | cases hs
 have h2 : v.boxy = true := by cases v <;> first | rfl | cases hs
 have h3 : iL cs o [v] = cs.set o v := by
  rw [iL, List.set_eq_take_append_cons_drop, if_pos ho]; simp
 rw [bR, h1, h2, if_pos ⟨rfl, rfl, ho⟩, h3, hd, r]
theorem aRb {o z : Nat} {cs ds es xs : List V} {ps : List (Nat × Nat)} {vs : List V} (hx : xs.length = z) (ho : o + z ≤ cs.length) (hd : iL cs o xs = ds) (r : bR ds ps vs = some es) : bR cs ((o, z) :: ps) (.agg xs :: vs) = some es := by
 rw [bR, if_pos ⟨rfl, hx, ho⟩]
 show bR (iL cs o xs) ps vs = _
 rw [hd, r]
theorem aTg {z y n m : Nat} {w : Option Nat} {cs ds es : List V} (hc : cs.length = n * z) (hd : ds.length = m * z) (hr : (n + m) * y ≤ room) (he : cs ++ ds = es) : apply s (.app z y) [.sl (some z) n cs, .sl w m ds] H = some (.sl (some z) (n + m) es, H) := by
 subst he
 simp [apply, aRo, eX, rB, hc, hd, hr]
theorem aYr {z y n m id off : Nat} {w : Option Nat} {cs ds es os ps : List V} {H' : aC} (h : H[id]? = some os) (ho : os[off]? = some (.sl (some z) n cs)) (hm : cR s id (fun _ => true) = true) (hs : os.set off (.sl none n cs) = ps) (hH : H.set id ps = H')
 (hc : cs.length = n * z) (hd : ds.length = m * z) (hr : (n + m) * y ≤ room) (he : cs ++ ds = es) {n0 : Nat} {c0 : List V} : apply s (.apv z y) [.via id off n0 c0, .sl w m ds] H = some (.sl (some z) (n + m) es, H') := by
 subst he
 simp only [apply, aKg, hm, if_true, L7 h, ho, Option.bind_some, aIz h, V.dis1, hs, hH]
 simp [eX, rB, hc, hd, hr]
theorem aYs {i : Nat} {vs : List V} {v : V} (h : vs[i]? = some v) (hn : v.ntup = some v) : apply s (.ext i) [.tup vs] H = some (v, H) := by
 simp only [apply, aHs, h, Option.bind_some, hn, Option.map_some]
theorem aYt {w : Option Nat} {n : Nat} {cs : List V} {t : List UInt8} (hl : cs.length = n) (h : bytesOf cs = some t) : apply s .b2s [.sl w n cs] H = some (.str t, H) := by
 simp only [apply, aHp, hl, if_true, h, Option.map_some]
theorem aUq {a b : List UInt8} : apply s (.bin .eql) [.str a, .str b] H = some (.bool (a == b), H) := by simp only [EVB, Option.map_some]
theorem aYu {k j : IntKind} {n m : Int} (h : k.wrap n = m) : apply s (.cvi k) [.int j n] H = some (.int k m, H) := by rw [← h]; rfl
theorem bCc {k j : IntKind} {x y : Int} : apply s .mx [.int k x, .int j y] H = some (.int k (max x y), H) := by
 simp only [apply, aMx, mxn, gt_iff_lt, decide_eq_true_eq, Option.map_some]
 by_cases h : x < y
 ·rw [if_pos h, Int.max_eq_right (by omega)]
 ·rw [if_neg h, Int.max_eq_left (by omega)]
theorem aYv {c : List V} {m : Nat} (hl : H.length = m) : (H ++ [c])[m]? = some c := by subst hl; rw [List.getElem?_append_right (Nat.le_refl _), Nat.sub_self]; rfl
theorem aYw {L : aC} {id : Nat} {c : List V} (h : H[id]? = some c) : (H ++ L)[id]? = some c := by rw [List.getElem?_append_left (List.getElem?_eq_some_iff.1 h).1]; exact h
theorem aYx {id : Nat} {c d : List V} (h : H[id]? = some c) : (H.set id d)[id]? = some d := by rw [List.getElem?_set_self (List.getElem?_eq_some_iff.1 h).1]
theorem bCd {id j : Nat} {c d : List V} (hn : j ≠ id) (h : H[id]? = some c) : (H.set j d)[id]? = some c := by rw [List.getElem?_set_ne hn]; exact h
theorem aYy {c d : List V} {m : Nat} (hl : H.length = m) : (H ++ [c]).set m d = H ++ [d] := by subst hl; rw [List.set_append_right _ _ (Nat.le_refl _), Nat.sub_self]; rfl
theorem aYz {H' L : aC} {id : Nat} {c d : List V} (h : H[id]? = some c) (hs : H.set id d = H') : (H ++ L).set id d = H' ++ L := by rw [List.set_append_left _ _ (List.getElem?_eq_some_iff.1 h).1, hs]
theorem aUr {id : Nat} {c d : List V} : (H.set id c).set id d = H.set id d := by rw [List.set_set]
theorem aUs {l id : Nat} {ok : Nat → Bool} (h : l ≤ id) : cR (some l) id ok = true := by simp [cR, h]
theorem aUt {e : aZ} {G : aC} (h : H.length ≤ G.length) : eC s G e H = H := by
 unfold eC
 split
 ·rw [if_neg (by omega)]
 ·rfl
def KB (l : Nat) (G H : aC) : Prop := ∀ (i : Nat) a b, l ≤ i → G[i]? = some a → H[i]? = some b → a = b ∨ V.rbL G.length b = true
theorem aIs {m : Nat} : ∀ {G H : aC}, (∀ (i : Nat) a b, G[i]? = some a → H[i]? = some b → a = b ∨ V.rbL m b = true) → I0 m G H = true
 | [], _, _ => by simp [I0]
 | _ :: _, [], _ => by simp [I0]
 | g :: G, x :: H, h => by
   simp only [I0, Bool.and_eq_true, Bool.or_eq_true]
   refine ⟨?_, aIs fun i a b h1 h2 => h (i + 1) a b (by simpa using h1) (by simpa using h2)⟩
   exact ((h 0 g x rfl rfl).imp (fun e => by rw [e]; exact jN x) id).symm
theorem aIt {l : Nat} {G : aC} (h : KB l G H) : aBl l G H = true :=
 aIs fun i a b h1 h2 => h (l + i) a b (by omega) (by rwa [List.getElem?_drop] at h1) (by rwa [List.getElem?_drop] at h2)
theorem aRc {l : Nat} : KB l H H := fun i a b _ h1 h2 => .inl (by rw [h1] at h2; cases h2; rfl)
theorem aMb {l : Nat} {G L : aC} (h : KB l G H) (hl : G.length ≤ H.length) : KB l G (H ++ L) := fun i a b hi h1 h2 => by
 have := (List.getElem?_eq_some_iff.1 h1).1
 rw [List.getElem?_append_left (by omega)] at h2
 exact h i a b hi h1 h2
theorem aUu {l id : Nat} {G : aC} {c : List V} (h : KB l G H) (k : V.rbL G.length c = true) : KB l G (H.set id c) := fun i a b hi h1 h2 => by
 rw [List.getElem?_set] at h2
 split at h2
 ·split at h2
  ·cases h2; exact .inr k
  ·cases h2
 ·exact h i a b hi h1 h2
theorem aZ0 {l : Nat} {e : aZ} {G : aC} (hl : l ≤ G.length) (he : e.all (fun p => p.2.rb G.length) = true) (hm : G.length ≤ H.length) (hk : KB l G H) : eC (some l) G e H = H.take G.length := by
 show (if l ≤ G.length ∧ G.length < H.length ∧ e.all (fun p => p.2.rb G.length) = true ∧ aBl l G H = true then H.take G.length else H) = _
 by_cases h : G.length < H.length
 ·rw [if_pos ⟨hl, h, he, aIt hk⟩]
 ·have : G.length = H.length := by omega
  rw [if_neg (fun k => h k.2.1), this, List.take_length]
theorem aZ1 {l : Nat} {e : aZ} {G L : aC} (hl : l ≤ G.length) (hm : H.length = G.length) (he : e.all (fun p => p.2.rb G.length) = true) (hk : KB l G H) : eC (some l) G e (H ++ L) = H := by
 rw [aZ0 hl he (by rw [List.length_append]; omega) (aMb hk (by omega)), ← hm]
 exact List.take_left ..
end
theorem aUv {m : Nat} : ([] : aZ).all (fun p => p.2.rb m) = true := rfl
theorem aRd {m s : Nat} {v : V} {e : aZ} (h : V.rb m v = true) (r : e.all (fun p => p.2.rb m) = true) : ((s, v) :: e : aZ).all (fun p => p.2.rb m) = true := by rw [List.all_cons, h, r]; rfl
theorem aTh {cs : List V} {o : Nat} {v : V} (h : cs[o]? = some v) : (cs[o]?).isSome = true := by rw [h]; rfl
theorem aR {k n m} : V.rb m (.int k n) = true := by simp only [V.rb]
theorem zN {b m} : V.rb m (.bool b) = true := by simp only [V.rb]
theorem qB {o n c m} (h : V.rbL m c = true) : V.rb m (.sl o n c) = true := by simp only [V.rb, h]
theorem eK {m} : V.rbL m [] = true := by simp only [V.rbL]
theorem aL {v r m} (h : V.rb m v = true) (k : V.rbL m r = true) : V.rbL m (v :: r) = true := by simp only [V.rbL, h, k, Bool.and_self]
theorem aMc {a b m} (h : V.rbL m a = true) (k : V.rbL m b = true) : V.rbL m (a ++ b) = true := by
 induction a with
 | nil => exact k
 | cons v r ih =>
   simp only [V.rbL, Bool.and_eq_true, List.cons_append] at *
   exact ⟨h.1, ih h.2⟩
theorem aUw {c m i v} (h : V.rbL m c = true) (k : V.rb m v = true) : V.rbL m (c.set i v) = true := by
 induction c generalizing i with
 | nil => simpa using h
 | cons x r ih =>
   simp only [V.rbL, Bool.and_eq_true] at h
   cases i with
   | zero => simp only [List.set_cons_zero, V.rbL, k, h.2, Bool.and_self]
   | succ i => simp only [List.set_cons_succ, V.rbL, h.1, ih h.2, Bool.and_self]
theorem aUx {c m} (h : V.rbL m c = true) : V.rb m (.agg c) = true := by simp only [V.rb, h]
theorem aUy {i o m} (h : i < m) : V.rb m (.ptr i o) = true := by simp only [V.rb, h, decide_true]
class Frz1 (H : aC) (m : Nat) (v : V) (w : outParam V) : Prop where eq : dO H m v = w
class FrzL (H : aC) (m : Nat) (cs : List V) (ds : outParam (List V)) : Prop where eq : cs.map (dO H m) = ds
class Frz (H : aC) (m : Nat) (v : V) (w : outParam V) : Prop where eq : kD H m v = w
class FrzA (H : aC) (m : Nat) (cs : List V) (ds : outParam (List V)) : Prop where eq : cs.map (kD H m) = ds
instance (priority := low) (H m) (v : V) : Frz1 H m v (dO H m v) := ⟨rfl⟩
instance (priority := low) (H m) (v : V) : Frz H m v (kD H m v) := ⟨rfl⟩
instance (priority := low) (H m) (cs : List V) : FrzL H m cs (cs.map (dO H m)) := ⟨rfl⟩
instance (H m) : FrzL H m [] [] := ⟨rfl⟩
instance (H m) {v w : V} {r s : List V} [h : Frz1 H m v w] [k : FrzL H m r s] : FrzL H m (v :: r) (w :: s) := ⟨by rw [List.map_cons, h.eq, k.eq]⟩
instance (H m) : FrzA H m [] [] := ⟨rfl⟩
instance (H m) {v w : V} {r s : List V} [h : Frz H m v w] [k : FrzA H m r s] : FrzA H m (v :: r) (w :: s) := ⟨by rw [List.map_cons, h.eq, k.eq]⟩
instance (H m) {c d : List V} [h : FrzL H m c d] : Frz H m (.agg c) (.agg d) := ⟨by rw [kD, h.eq]⟩
instance (H m) (b) : Frz1 H m (.bool b) (.bool b) := ⟨rfl⟩
instance (H m) (b) : Frz H m (.bool b) (.bool b) := ⟨rfl⟩
instance (H m) (k n) : Frz1 H m (.int k n) (.int k n) := ⟨rfl⟩
instance (H m) (k n) : Frz H m (.int k n) (.int k n) := ⟨rfl⟩
instance (H m) (l) : Frz1 H m (.str l) (.str l) := ⟨rfl⟩
instance (H m) (l) : Frz H m (.str l) (.str l) := ⟨rfl⟩
instance (H m) (i o) : Frz1 H m (.ptr i o) (.ptr i o) := ⟨rfl⟩
instance (H m) (i o) : Frz H m (.ptr i o) (.ptr i o) := ⟨rfl⟩
instance (H m)  : Frz1 H m (.nilp) (.nilp) := ⟨rfl⟩
instance (H m)  : Frz H m (.nilp) (.nilp) := ⟨rfl⟩
instance (H m) (c i) : Frz1 H m (.fp c i) (.fp c i) := ⟨rfl⟩
instance (H m) (c i) : Frz H m (.fp c i) (.fp c i) := ⟨rfl⟩
instance (H m) (o n c) : Frz1 H m (.sl o n c) (.sl o n c) := ⟨rfl⟩
instance (H m) (o n c) : Frz H m (.sl o n c) (.sl o n c) := ⟨rfl⟩
instance (H m) (f c) : Frz1 H m (.fn f c) (.fn f c) := ⟨rfl⟩
instance (H m) (f c) : Frz H m (.fn f c) (.fn f c) := ⟨rfl⟩
instance (H m)  : Frz1 H m (.nilf) (.nilf) := ⟨rfl⟩
instance (H m)  : Frz H m (.nilf) (.nilf) := ⟨rfl⟩
instance (H m) (t v) : Frz1 H m (.ifc t v) (.ifc t v) := ⟨rfl⟩
instance (H m) (t v) : Frz H m (.ifc t v) (.ifc t v) := ⟨rfl⟩
instance (H m)  : Frz1 H m (.nili) (.nili) := ⟨rfl⟩
instance (H m)  : Frz1 H m (.nls) (.sl none 0 []) := ⟨rfl⟩
instance (H m)  : Frz H m (.nls) (.sl none 0 []) := ⟨rfl⟩
instance (H m)  : Frz H m (.nili) (.nili) := ⟨rfl⟩
theorem aUz {e : aZ} {H : aC} : bG e H [] = some [] := rfl
theorem bCe {n : Nat} {rs : List Rs} {e : aZ} {H : aC} {v : V} {vs : List V} (h : g e n = some v) (hv : v.noVia = true) (r : bG e H rs = some vs) : bG e H (.t n :: rs) = some (v :: vs) := by
 rw [s4] at h; simp only [bG, I1, h, Option.bind_some, hv, if_true, r, Option.map_some]
theorem aMd {n id o z : Nat} {rs : List Rs} {e : aZ} {H : aC} {cs ds es : List V} {vs : List V} (h : g e n = some (.ptr id o)) (hH : H[id]? = some cs) (hc : (cs.drop o).take z = ds) (hl : ds.length = z) (hn : Nat.beq z 0 = false) (d : DisL ds es) (r : bG e H rs = some vs) : bG e H (.cells n z :: rs) = some (.agg es :: vs) := by
 have hn' : z ≠ 0 := fun k => by subst k; cases hn
 rw [s4] at h; simp only [bG, I1, h, B4 hH, if_pos ((aH9 hc hl).resolve_left hn'), hc, Option.map_some, d.eq, Option.bind_some, V.noVia, if_true, r]
theorem f_P {s : Option Nat} {H H0 H' : aC} {vs ws : List V} {v : V} [d : FrzA H' H0.length vs ws] (hr : V.rbL H0.length ws = true) (ht : tie ws = v) : bD .P s H H0 vs H' = some (v, H) := by
 simp only [bD, d.eq, hr, if_true, ht]
theorem f_T {l : Nat} {H H0 H' H'' : aC} {vs : List V} {v : V} (hr : V.rbL H.length vs = true) (hk : aBl l H H' = true) (ht : tie vs = v) (hH : H'.take H.length = H'') : bD .T (some l) H H0 vs H' = some (v, H'') := by
 simp only [bD, hr, hk, Bool.and_self, if_true, ht, hH]
theorem f_K {s : Option Nat} {H H0 H' : aC} {vs : List V} {v : V} (ht : tie vs = v) : bD .K s H H0 vs H' = some (v, H') := by simp only [bD, ht]
theorem bCf {v : V} : tie [v] = v := rfl
theorem aMe {H : aC} {m : Nat} (h : H.length = m) : H.take m = H := by subst h; exact List.take_length ..
theorem aZ2 {H G : aC} {c d : List V} (h : H.length = G.length) : (H ++ [c]).length = (G ++ [d]).length := by simp [h]
theorem aZ3 {H : aC} {m id : Nat} {d : List V} (h : H.length = m) : (H.set id d).length = m := by rw [List.length_set, h]
section
variable {β : Type} {T : Tab} {s : Option Nat}
end
theorem aZ4 {a b : Int} (h : a = b) : (a == b) = true := by simpa using h
theorem aZ5 {a b : Int} (h : ¬ a = b) : (a == b) = false := by simpa using h
end Go.Abs
namespace Go.Abs
class Cel (α : Type) where
 n : Nat
 enc : α → List V
 len : ∀ x, (enc x).length = n
 rb : ∀ m x, V.rbL m (enc x) = true
 dis : ∀ x, (enc x).map V.dis1 = enc x
def enL {α : Type} [Cel α] (l : List α) : List V := l.flatMap Cel.enc
class Expl {α : Type} [Cel α] (x : α) (cs : outParam (List V)) : Prop where eq : Cel.enc x = cs
class FoldL (α : Type) [Cel α] (cs : List V) (xs : outParam (List α)) : Prop where eq : cs = enL xs
theorem aO {α : Type} [Cel α] : enL ([] : List α) = [] := rfl
theorem bT {α : Type} [Cel α] (x : α) (l : List α) : enL (x :: l) = Cel.enc x ++ enL l := by unfold enL; rw [List.flatMap_cons]
theorem aJ1 {α : Type} [Cel α] (l k : List α) : enL (l ++ k) = enL l ++ enL k := by unfold enL; rw [List.flatMap_append]
theorem wG {α : Type} [Cel α] : ∀ l : List α, (enL l).length = l.length * Cel.n α
 | [] => by rw [aO, List.length_nil, List.length_nil, Nat.zero_mul]
 | x :: l => by rw [bT, List.length_append, Cel.len, wG l, List.length_cons, Nat.succ_mul, Nat.add_comm]
theorem aV3 {α : Type} [Cel α] {z : Nat} (l : List α) (h : Cel.n α = z) : (enL l).length = l.length * z := by rw [wG, h]
theorem aMm {α : Type} [Cel α] (l : List α) (h : Cel.n α = 1) : (enL l).length = l.length := by rw [wG, h, Nat.mul_one]
theorem iU {α : Type} [Cel α] (m : Nat) : ∀ l : List α, V.rbL m (enL l) = true
 | [] => eK
 | x :: l => by rw [bT]; exact aMc (Cel.rb m x) (iU m l)
theorem aRg {α : Type} [Cel α] (l : List α) : (enL l).map V.dis1 = enL l := by
 unfold enL; rw [List.map_flatMap]; congr 1; funext x; exact Cel.dis x
theorem aF0 {α : Type} [Cel α] : ∀ (l : List α) (i : Nat), (enL l).drop (i * Cel.n α) = enL (l.drop i)
 | l, 0 => by rw [Nat.zero_mul, List.drop_zero, List.drop_zero]
 | [], i + 1 => by rw [aO, List.drop_nil, List.drop_nil, aO]
 | x :: l, i + 1 => by
   rw [bT, Nat.succ_mul, Nat.add_comm, ← Cel.len x, List.drop_length_add_append, Cel.len x, aF0 l i, List.drop_succ_cons]
theorem aBg {α : Type} [Cel α] {l : List α} {i : Nat} {x : α} (h : l[i]? = some x) : ((enL l).drop (i * Cel.n α)).take (Cel.n α) = Cel.enc x := by
 rw [aF0]
 obtain ⟨hl, hx⟩ := List.getElem?_eq_some_iff.1 h
 rw [List.drop_eq_getElem_cons hl, hx, bT, ← Cel.len x, List.take_left]
theorem aRh {α : Type} [Cel α] {l : List α} {i z : Nat} {x : α} {cs : List V} (h : l[i]? = some x) (hz : Cel.n α = z) (he : Expl x cs) : ((enL l).drop (i * z)).take z = cs := by
 subst hz; rw [aBg h, he.eq]
theorem aJ2 {α : Type} [Cel α] {l : List α} {i z j : Nat} {x : α} {cs : List V} {v : V} (h : l[i]? = some x) (hz : Cel.n α = z) (he : Expl x cs) (hj : cs[j]? = some v) : (enL l)[i * z + j]? = some v := by
 subst hz
 have hl : j < Cel.n α := by rw [← Cel.len x, he.eq]; exact (List.getElem?_eq_some_iff.1 hj).1
 rw [← hj, ← he.eq, ← aBg h, List.getElem?_take, if_pos hl, List.getElem?_drop]
theorem aF1 {α : Type} [Cel α] {l : List α} {i z : Nat} {x : α} {cs : List V} {v : V} (h : l[i]? = some x) (hz : Cel.n α = z) (he : Expl x cs) (hj : cs[0]? = some v) : (enL l)[i * z]? = some v := aJ2 h hz he hj
theorem aMo {α : Type} [Cel α] {l : List α} {i : Nat} {x : α} {cs : List V} {v : V} (h : l[i]? = some x) (hz : Cel.n α = 1) (he : Expl x cs) (hj : cs[0]? = some v) : (enL l)[i]? = some v := by
 have := aF1 h hz he hj; rwa [Nat.mul_one] at this
instance {α : Type} [Cel α] (l : List α) : DisL (enL l) (enL l) := ⟨aRg l⟩
instance (priority := high) {α : Type} [Cel α] (l : List α) : FoldL α (enL l) l := ⟨rfl⟩
instance {α : Type} [Cel α] : FoldL α [] [] := ⟨rfl⟩
instance : Cel Int := ⟨1, fun x => [.int .i64 x], fun _ => rfl, fun _ _ => aL aR eK, fun _ => rfl⟩
instance (x : Int) : Expl x [.int .i64 x] := ⟨rfl⟩
instance {a : Int} {r : List V} {xs : List Int} [h : FoldL Int r xs] : FoldL Int (.int .i64 a :: r) (a :: xs) := ⟨by rw [bT, ← h.eq]; rfl⟩
instance : Cel UInt8 := ⟨1, fun x => [.int .u8 (x.toNat : Int)], fun _ => rfl, fun _ _ => aL aR eK, fun _ => rfl⟩
instance (x : UInt8) : Expl x [.int .u8 (x.toNat : Int)] := ⟨rfl⟩
instance (priority := high) {a : UInt8} {r : List V} {xs : List UInt8} [h : FoldL UInt8 r xs] : FoldL UInt8 (.int .u8 (a.toNat : Int) :: r) (a :: xs) := ⟨by rw [bT, ← h.eq]; rfl⟩
def b8 (n : Int) : UInt8 := UInt8.ofNat (IntKind.u8.wrap n).toNat
theorem aMp (n : Int) : ((b8 n).toNat : Int) = IntKind.u8.wrap n := by
 have h : 0 ≤ IntKind.u8.wrap n ∧ IntKind.u8.wrap n < 256 := by rw [IntKind.wrap_u8]; omega
 unfold b8
 rw [UInt8.toNat_ofNat']; omega
instance {a : Int} {r : List V} {xs : List UInt8} [h : FoldL UInt8 r xs] : FoldL UInt8 (.int .u8 (IntKind.u8.wrap a) :: r) (b8 a :: xs) := ⟨by
 rw [bT, ← h.eq]; show _ = [V.int .u8 ((b8 a).toNat : Int)] ++ r; rw [aMp]; rfl⟩
instance : Cel Bool := ⟨1, fun x => [.bool x], fun _ => rfl, fun _ _ => aL zN eK, fun _ => rfl⟩
instance (x : Bool) : Expl x [.bool x] := ⟨rfl⟩
instance {a : Bool} {r : List V} {xs : List Bool} [h : FoldL Bool r xs] : FoldL Bool (.bool a :: r) (a :: xs) := ⟨by rw [bT, ← h.eq]; rfl⟩
instance {α : Type} [Cel α] : Cel (List α) := ⟨1, fun l => [.sl none l.length (enL l)], fun _ => rfl, fun m l => aL (qB (iU m l)) eK, fun _ => rfl⟩
instance {α : Type} [Cel α] (l : List α) : Expl l [.sl none l.length (enL l)] := ⟨rfl⟩
instance {α : Type} [Cel α] {a : List α} {r : List V} {xs : List (List α)} [h : FoldL (List α) r xs] : FoldL (List α) (.sl none a.length (enL a) :: r) (a :: xs) := ⟨by rw [bT, ← h.eq]; rfl⟩
instance {α : Type} [Cel α] {r : List V} {xs : List (List α)} [h : FoldL (List α) r xs] : FoldL (List α) (.sl none 0 [] :: r) ([] :: xs) := ⟨by rw [bT, ← h.eq]; rfl⟩
class LenIs {α : Type} (xs : List α) (k : Nat) : Prop where eq : k = xs.length
instance {α : Type} : LenIs ([] : List α) 0 := ⟨rfl⟩
instance {α : Type} {x : α} {xs : List α} {k : Nat} [h : LenIs xs k] : LenIs (x :: xs) (k + 1) := ⟨by rw [h.eq]; rfl⟩
class SlL (α : Type) [Cel α] (v : V) (xs : outParam (List α)) : Prop where eq : v = .sl none xs.length (enL xs)
instance (priority := high) {α : Type} [Cel α] {a : List α} : SlL α (.sl none a.length (enL a)) a := ⟨rfl⟩
instance {α : Type} [Cel α] : SlL α (.sl none 0 []) [] := ⟨rfl⟩
instance (priority := low) {α : Type} [Cel α] {k : Nat} {cs : List V} {a : List α} [h : FoldL α cs a] [l : LenIs a k] : SlL α (.sl none k cs) a := ⟨by rw [h.eq, l.eq]⟩
theorem aF2 : ∀ b : List UInt8, bytesOf (enL b) = some b
 | [] => rfl
 | c :: b => by
   have ih := aF2 b
   rw [bT]
   show bytesOf (V.int .u8 (c.toNat : Int) :: enL b) = _
   simp [bytesOf, ih]
theorem aV4 {s : Option Nat} {H : aC} {α : Type} [Cel α] {z y m : Nat} {w : Option Nat} {l xs : List α} {ds : List V} (hf : FoldL α ds xs) (hz : Cel.n α = z) (hd : ds.length = m * z) (hp : Nat.beq z 0 = false) (hr : (l.length + xs.length) * y ≤ room) :
 apply s (.app z y) [.sl (some z) l.length (enL l), .sl w m ds] H = some (.sl (some z) (l ++ xs).length (enL (l ++ xs)), H) := by
 have hz0 : z ≠ 0 := fun k => by subst k; cases hp
 have e : m = xs.length := by
  have := hd; rw [hf.eq, wG, hz] at this
  exact (Nat.eq_of_mul_eq_mul_right (Nat.pos_of_ne_zero hz0) this).symm
 subst e
 rw [aTg (by rw [wG, hz]) hd hr rfl, hf.eq, ← aJ1, List.length_append]
theorem aV5 {s : Option Nat} {H : aC} {α : Type} [Cel α] {z y m id off : Nat} {w : Option Nat} {l xs : List α} {ds os ps : List V} {H' : aC} (h : H[id]? = some os) (ho : os[off]? = some (.sl (some z) l.length (enL l))) (hm : cR s id (fun _ => true) = true) (hs : os.set off (.sl none l.length (enL l)) = ps) (hH : H.set id ps = H')
 (hf : FoldL α ds xs) (hz : Cel.n α = z) (hd : ds.length = m * z) (hp : Nat.beq z 0 = false) (hr : (l.length + xs.length) * y ≤ room) {n0 : Nat} {c0 : List V} :
 apply s (.apv z y) [.via id off n0 c0, .sl w m ds] H = some (.sl (some z) (l ++ xs).length (enL (l ++ xs)), H') := by
 have hz0 : z ≠ 0 := fun k => by subst k; cases hp
 have e : m = xs.length := by
  have := hd; rw [hf.eq, wG, hz] at this
  exact (Nat.eq_of_mul_eq_mul_right (Nat.pos_of_ne_zero hz0) this).symm
 subst e
 rw [aYr h ho hm hs hH (by rw [wG, hz]) hd hr rfl, hf.eq, ← aJ1, List.length_append]
section
variable {s : Option Nat} {H : aC}
theorem aZ6 {k : IntKind} {a b : Int} (h : b ≠ 0) : apply s (.bin .quo) [.int k a, .int k b] H = some (.int k (k.wrap (a.tdiv b)), H) := by
 simp only [EVB, if_neg h, Option.map_some]
theorem aZ7 {k : IntKind} {a b : Int} (h : b ≠ 0) : apply s (.bin .rem) [.int k a, .int k b] H = some (.int k (a.tmod b), H) := by
 simp only [EVB, if_neg h, Option.map_some]
theorem aZ8 {k j : IntKind} {a b : Int} (h : 0 ≤ b) : apply s (.bin .shl) [.int k a, .int j b] H = some (.int k (k.wrap (a * 2 ^ (min b.toNat k.bits))), H) := by
 simp only [EVB, if_neg (Int.not_lt.2 h), Option.map_some]
theorem aZ9 {k j : IntKind} {a b : Int} (h : 0 ≤ b) : apply s (.bin .shr) [.int k a, .int j b] H = some (.int k (a.fdiv (2 ^ (min b.toNat k.bits))), H) := by
 simp only [EVB, if_neg (Int.not_lt.2 h), Option.map_some]
theorem aMq {k : IntKind} {a b : Int} : apply s (.bin .and) [.int k a, .int k b] H = some (.int k (k.wrap (BitVec.ofInt k.bits a &&& BitVec.ofInt k.bits b).toNat), H) := by
 simp only [EVB, bits, Option.map_some]
theorem aMr {k : IntKind} {a b : Int} : apply s (.bin .xor) [.int k a, .int k b] H = some (.int k (k.wrap (BitVec.ofInt k.bits a ^^^ BitVec.ofInt k.bits b).toNat), H) := by
 simp only [EVB, bits, Option.map_some]
theorem aZa {k : IntKind} {a : Int} : apply s (.un .neg) [.int k a] H = some (.int k (k.wrap (0 - a)), H) := by
 simp only [EVB, Option.map_some]
theorem aV6 {w : Option Nat} {l : List UInt8} : apply s .b2s [.sl w l.length (enL l)] H = some (.str l, H) := aYt (aMm l rfl) (aF2 l)
theorem aV7 {z y n id off r p : Nat} {i : Int} {k : IntKind} (h0 : 0 ≤ i) (h : i < (n : Int)) (hp : off + i.toNat * z = p) : apply s (.ix z) [.ar y id off n r, .int k i] H = some (.ptr id p, H) := by
 rw [← hp, EVA.2.2.2.1, if_pos ⟨h0, h⟩]
end
section
variable {s : Option Nat} {H : aC} {α : Type} [Cel α]
end
section
variable {s : Option Nat} {H : aC}
theorem aV8 {z y m : Nat} {w : Option Nat} {ds es : List V} (hm : m ≠ 0) (hd : ds.length = m * z) (hr : m * y ≤ room) (d : DisL ds es) :
 apply s (.apg z y) [.nls, .sl w m ds] H = some (.ar z H.length 0 m m, H ++ [es]) := by
 simp only [apply, Q4, rB, hd, if_true, Option.bind_some, hr, if_neg hm, d.eq]
theorem aMs {z y n m k id : Nat} {x : V} {us es cs ds : List V} {H' : aC} (h : H[id]? = some cs) (hm : cR s id (fun _ => true) = true) (ht : rB z x H = some (m, us)) (d : DisL us es) (hk : k < n + m) (hc : cs ≠ []) (hl : n * z ≤ cs.length) (hr : (n + m) * y ≤ room)
 (hd : cs.take (n * z) ++ es = ds) (hH : H.set id [] = H') : apply s (.apg z y) [.ar z id 0 n k, x] H = some (.ar z H.length 0 (n + m) (n + m), H' ++ [ds]) := by
 have hk' : ¬ n + m ≤ k := by omega
 simp only [apply, Q4, hm, and_self, if_true, h, Option.bind_some, ht, if_neg hk', d.eq, hd, hH]
 rw [if_pos ⟨trivial, hc, hl, hr⟩]
theorem aZb {z m : Nat} {w : Option Nat} {ds : List V} (hd : ds.length = m * z) : rB z (.sl w m ds) H = some (m, ds) := by simp only [rB, hd, if_true]
end
theorem aK9 {i : Nat} (h : (i : Int) < 9223372036854775807) : IntKind.i64.wrap ((i : Int) + 1) = ((i + 1 : Nat) : Int) := by
 rw [IntWalk.i64_in _ (by omega)]; omega
theorem aZc {β σ : Type} {T : Tab} {s : Option Nat} {c : C} {κ : oK → Option β} {Y : Option β → Prop} (n : Nat) (E : Nat → σ → aZ) (H : Nat → σ → aC) (P : Nat → σ → Prop)
 (step : ∀ i t, i < n → P i t → (∀ t', P (i + 1) t' → Ev (R T s (.loop c) (E (i + 1) t') (H (i + 1) t') κ) Y) → Ev (R T s (.loop c) (E i t) (H i t) κ) Y)
 (fin : ∀ t, P n t → Ev (R T s (.loop c) (E n t) (H n t) κ) Y) (t : σ) (h : P 0 t) {e0 : aZ} {H0 : aC} (he : E 0 t = e0 := by first | rfl | (simp only [aO, List.length_nil]; rfl)) (hH : H 0 t = H0 := by first | rfl | (simp only [aO, List.length_nil]; rfl)) : Ev (R T s (.loop c) e0 H0 κ) Y := by
 subst he hH
 have : ∀ k i t, i + k = n → P i t → Ev (R T s (.loop c) (E i t) (H i t) κ) Y := by
  intro k
  induction k with
  | zero => intro i t hi hp; obtain rfl : i = n := by omega
            exact fin t hp
  | succ k ih => intro i t hi hp; exact step i t (by omega) hp fun t' h' => ih (i + 1) t' (by omega) h'
 exact this n 0 t (by omega) h
end Go.Abs
