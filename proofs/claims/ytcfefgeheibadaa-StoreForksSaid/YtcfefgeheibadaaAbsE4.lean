/-
  Running code row by row: one lemma for each kind of row; values without leave to append are worked out by classes.
-/
import Derived.Test.YtcfefgeheibadaaAbsE3
namespace Go.Abs

class Dis1 (v : V) (w : outParam V) : Prop where eq : v.dis1 = w
class DisL (cs : List V) (ds : outParam (List V)) : Prop where eq : cs.map V.dis1 = ds
class Dis2 (v : V) (w : outParam V) : Prop where eq : v.dis2 = w
class DisT (cs : List V) (ds : outParam (List V)) : Prop where eq : cs.map V.dis2 = ds
class Dis (v : V) (w : outParam V) : Prop where eq : v.dis = w
instance (priority := low) dis1_any (v : V) : Dis1 v v.dis1 := ⟨rfl⟩
instance (priority := low) dis2_any (v : V) : Dis2 v v.dis2 := ⟨rfl⟩
instance (priority := low) dis_any (v : V) : Dis v v.dis := ⟨rfl⟩
instance (priority := low) disL_any (cs : List V) : DisL cs (cs.map V.dis1) := ⟨rfl⟩
instance (priority := low) disT_any (cs : List V) : DisT cs (cs.map V.dis2) := ⟨rfl⟩
instance : DisL [] [] := ⟨rfl⟩
instance {v w : V} {r s : List V} [h : Dis1 v w] [k : DisL r s] : DisL (v :: r) (w :: s) := ⟨by rw [List.map_cons, h.eq, k.eq]⟩
instance : DisT [] [] := ⟨rfl⟩
instance {v w : V} {r s : List V} [h : Dis2 v w] [k : DisT r s] : DisT (v :: r) (w :: s) := ⟨by rw [List.map_cons, h.eq, k.eq]⟩
instance (b) : Dis1 (.bool b) (.bool b) := ⟨rfl⟩
instance (k n) : Dis1 (.int k n) (.int k n) := ⟨rfl⟩
instance (l) : Dis1 (.str l) (.str l) := ⟨rfl⟩
instance (i o) : Dis1 (.ptr i o) (.ptr i o) := ⟨rfl⟩
instance : Dis1 .nilp .nilp := ⟨rfl⟩
instance (c i) : Dis1 (.fp c i) (.fp c i) := ⟨rfl⟩
instance (o n c) : Dis1 (.sl o n c) (.sl none n c) := ⟨rfl⟩
instance (i o n c) : Dis1 (.via i o n c) (.sl none n c) := ⟨rfl⟩
instance (a b c d r) : Dis1 (.ar a b c d r) (.ar a b c d r) := ⟨rfl⟩
instance : Dis1 .nls .nls := ⟨rfl⟩
instance (f c) : Dis1 (.fn f c) (.fn f c) := ⟨rfl⟩
instance : Dis1 .nilf .nilf := ⟨rfl⟩
instance (t v) : Dis1 (.ifc t v) (.ifc t v) := ⟨rfl⟩
instance : Dis1 .nili .nili := ⟨rfl⟩
instance (b) : Dis2 (.bool b) (.bool b) := ⟨rfl⟩
instance (k n) : Dis2 (.int k n) (.int k n) := ⟨rfl⟩
instance (l) : Dis2 (.str l) (.str l) := ⟨rfl⟩
instance (i o) : Dis2 (.ptr i o) (.ptr i o) := ⟨rfl⟩
instance : Dis2 .nilp .nilp := ⟨rfl⟩
instance (c i) : Dis2 (.fp c i) (.fp c i) := ⟨rfl⟩
instance (o n c) : Dis2 (.sl o n c) (.sl none n c) := ⟨rfl⟩
instance (a b c d r) : Dis2 (.ar a b c d r) (.ar a b c d r) := ⟨rfl⟩
instance : Dis2 .nls .nls := ⟨rfl⟩
instance (f c) : Dis2 (.fn f c) (.fn f c) := ⟨rfl⟩
instance : Dis2 .nilf .nilf := ⟨rfl⟩
instance (t v) : Dis2 (.ifc t v) (.ifc t v) := ⟨rfl⟩
instance : Dis2 .nili .nili := ⟨rfl⟩
instance {c d : List V} [h : DisL c d] : Dis2 (.agg c) (.agg d) := ⟨by rw [V.dis2, h.eq]⟩
instance (b) : Dis (.bool b) (.bool b) := ⟨rfl⟩
instance (k n) : Dis (.int k n) (.int k n) := ⟨rfl⟩
instance (l) : Dis (.str l) (.str l) := ⟨rfl⟩
instance (i o) : Dis (.ptr i o) (.ptr i o) := ⟨rfl⟩
instance : Dis .nilp .nilp := ⟨rfl⟩
instance (c i) : Dis (.fp c i) (.fp c i) := ⟨rfl⟩
instance (o n c) : Dis (.sl o n c) (.sl none n c) := ⟨rfl⟩
instance (i o n c) : Dis (.via i o n c) (.sl none n c) := ⟨rfl⟩
instance (a b c d r) : Dis (.ar a b c d r) (.ar a b c d r) := ⟨rfl⟩
instance : Dis .nls .nls := ⟨rfl⟩
instance (f c) : Dis (.fn f c) (.fn f c) := ⟨rfl⟩
instance : Dis .nilf .nilf := ⟨rfl⟩
instance (t v) : Dis (.ifc t v) (.ifc t v) := ⟨rfl⟩
instance : Dis .nili .nili := ⟨rfl⟩
instance {c d : List V} [h : DisL c d] : Dis (.agg c) (.agg d) := ⟨by rw [V.dis, h.eq]⟩
instance {c d : List V} [h : DisT c d] : Dis (.tup c) (.tup d) := ⟨by rw [V.dis, h.eq]⟩

class Cells (v : V) (cs : outParam (List V)) : Prop where
  eq : v.cells = cs
  bx : v.boxy = true
instance (b) : Cells (.bool b) [.bool b] := ⟨rfl, rfl⟩
instance (k n) : Cells (.int k n) [.int k n] := ⟨rfl, rfl⟩
instance (l) : Cells (.str l) [.str l] := ⟨rfl, rfl⟩
instance (i o) : Cells (.ptr i o) [.ptr i o] := ⟨rfl, rfl⟩
instance : Cells .nilp [.nilp] := ⟨rfl, rfl⟩
instance (o n c) : Cells (.sl o n c) [.sl o n c] := ⟨rfl, rfl⟩
instance (a b c d r) : Cells (.ar a b c d r) [.ar a b c d r] := ⟨rfl, rfl⟩
instance : Cells .nls [.nls] := ⟨rfl, rfl⟩
instance (f c) : Cells (.fn f c) [.fn f c] := ⟨rfl, rfl⟩
instance : Cells .nilf [.nilf] := ⟨rfl, rfl⟩
instance (t v) : Cells (.ifc t v) [.ifc t v] := ⟨rfl, rfl⟩
instance : Cells .nili [.nili] := ⟨rfl, rfl⟩
instance (c) : Cells (.agg c) c := ⟨rfl, rfl⟩

/-- The same as eget, for reckoning. -/
def g : Env → Nat → Option V
  | [], _ => none
  | (s, v) :: e, t => match Nat.beq s t with | true => some v | false => g e t
theorem g_eq : ∀ (e : Env) (t : Nat), g e t = eget e t
  | [], _ => rfl
  | (s, v) :: e, t => by
    unfold g eget
    by_cases h : s = t
    · subst h; rw [Nat.beq_refl, if_pos rfl]
    · have : Nat.beq s t = false := by cases hb : Nat.beq s t with | false => rfl | true => exact absurd (Nat.eq_of_beq_eq_true hb) h
      rw [this, if_neg h]; exact g_eq e t
def eh : Env → Nat → Bool
  | [], _ => false
  | (s, _) :: e, t => match Nat.beq s t with | true => true | false => eh e t
theorem d_fresh : ∀ {e : Env} {t : Nat}, eh e t = false → edel e t = e
  | [], _, _ => rfl
  | (s, v) :: e, t, h => by
    unfold eh at h
    split at h
    · cases h
    · rename_i hb
      have : s ≠ t := fun k => by subst k; rw [Nat.beq_refl] at hb; cases hb
      unfold edel
      rw [if_neg this, d_fresh h]
theorem d_nil {t : Nat} : edel [] t = [] := rfl
theorem d_hit {t : Nat} {v : V} {e e' : Env} (h : edel e t = e') : edel ((t, v) :: e) t = e' := by unfold edel; rw [if_pos rfl]; exact h
theorem d_miss {s t : Nat} {v : V} {e e' : Env} (hb : Nat.beq s t = false) (h : edel e t = e') : edel ((s, v) :: e) t = (s, v) :: e' := by
  have : s ≠ t := fun k => by subst k; rw [Nat.beq_refl] at hb; cases hb
  unfold edel; rw [if_neg this, h]
def lc : List Nat → Nat → Bool
  | [], _ => false
  | a :: l, t => match Nat.beq a t with | true => true | false => lc l t
theorem lc_eq : ∀ (l : List Nat) (t : Nat), lc l t = l.contains t
  | [], _ => rfl
  | a :: l, t => by
    unfold lc
    rw [List.contains_cons]
    by_cases h : a = t
    · subst h; rw [Nat.beq_refl]; simp
    · have : Nat.beq a t = false := by cases hb : Nat.beq a t with | false => rfl | true => exact absurd (Nat.eq_of_beq_eq_true hb) h
      rw [this]
      have : (t == a) = false := by simpa using fun k => h k.symm
      rw [this, Bool.false_or]; exact lc_eq l t
theorem k_nil {l : List Nat} : ekeep l [] = [] := rfl
theorem i_nil {s : Nat} {v : V} : eins s v [] = [(s, v)] := rfl
theorem i_here {s t : Nat} {v u : V} {e : Env} (h : Nat.ble s t = true) : eins s v ((t, u) :: e) = (s, v) :: (t, u) :: e := by unfold eins; rw [h]
theorem i_next {s t : Nat} {v u : V} {e e' : Env} (h : Nat.ble s t = false) (r : eins s v e = e') : eins s v ((t, u) :: e) = (t, u) :: e' := by unfold eins; rw [h, r]
theorem k_in {l : List Nat} {s : Nat} {v : V} {e e' e'' : Env} (h : lc l s = true) (r : ekeep l e = e') (i : eins s v e' = e'') : ekeep l ((s, v) :: e) = e'' := by
  rw [lc_eq] at h; unfold ekeep; rw [if_pos h, r, i]
theorem k_out {l : List Nat} {s : Nat} {v : V} {e e' : Env} (h : lc l s = false) (r : ekeep l e = e') : ekeep l ((s, v) :: e) = e' := by
  rw [lc_eq] at h; unfold ekeep; rw [if_neg (by rw [h]; exact Bool.false_ne_true), r]

theorem x_nil {e : Env} : evs [] e = some ([], e) := rfl
theorem x_t {n : Nat} {xs : List X} {e e1 : Env} {v w : V} {ws : List V} (h : g e n = some v) (d : Dis v w) (r : evs xs e = some (ws, e1)) : evs (.t n :: xs) e = some (w :: ws, e1) := by
  rw [g_eq] at h
  simp only [evs, evX, h, Option.map_some, Option.bind_some, r, d.eq]
theorem x_m {n : Nat} {xs : List X} {e e1 e2 : Env} {v : V} {ws : List V} (h : g e n = some v) (hd : edel e n = e1) (r : evs xs e1 = some (ws, e2)) : evs (.m n :: xs) e = some (v :: ws, e2) := by
  rw [g_eq] at h
  simp only [evs, evX, h, Option.map_some, Option.bind_some, hd, r]
theorem x_k {v : V} {xs : List X} {e e1 : Env} {ws : List V} (r : evs xs e = some (ws, e1)) : evs (.k v :: xs) e = some (v :: ws, e1) := by
  simp only [evs, evX, Option.map_some, Option.bind_some, r]
theorem e_t {n : Nat} {e : Env} {v w : V} (h : g e n = some v) (d : Dis v w) : evX (.t n) e = some (w, e) := by
  rw [g_eq] at h; simp only [evX, h, Option.map_some, d.eq]
theorem e_m {n : Nat} {e e1 : Env} {v : V} (h : g e n = some v) (hd : edel e n = e1) : evX (.m n) e = some (v, e1) := by
  rw [g_eq] at h; simp only [evX, h, Option.map_some, hd]
theorem e_k {v : V} {e : Env} : evX (.k v) e = some (v, e) := rfl

section
variable {β : Type} {T : Tab} {s : Option Nat}
theorem w_op {d : Nat} {o : O} {xs : List X} {rs} {e e1 e2 : Env} {H H1 : Heap} {vs : List V} {v : V} {κ : Env × Heap → Option β} {Y : Option β → Prop} (hx : evs xs e = some (vs, e1)) (ha : apply s o vs H = some (v, H1)) (hw : (!o.writes || calm e1) = true) (hd : edel e1 d = e2)
    (k : Ev (RR T s rs ((d, v) :: e2) H1 κ) Y) : Ev (RR T s ((some d, none, .op o xs) :: rs) e H κ) Y := by
  refine RR_row ?_ k
  simp only [op1_none, step, hx, Option.bind_some, hw, if_true, ha, Option.map_some, put_some, eput, hd]
theorem w_op0 {o : O} {xs : List X} {rs} {e e1 : Env} {H H1 : Heap} {vs : List V} {v : V} {κ : Env × Heap → Option β} {Y : Option β → Prop} (hx : evs xs e = some (vs, e1)) (ha : apply s o vs H = some (v, H1)) (hw : (!o.writes || calm e1) = true)
    (k : Ev (RR T s rs e1 H1 κ) Y) : Ev (RR T s ((none, none, .op o xs) :: rs) e H κ) Y := by
  refine RR_row ?_ k
  simp only [op1_none, step, hx, Option.bind_some, hw, if_true, ha, Option.map_some, put_none]
theorem w_mv {d : Nat} {x : X} {rs} {e e1 e2 : Env} {H : Heap} {v : V} {κ : Env × Heap → Option β} {Y : Option β → Prop} (hx : evX x e = some (v, e1)) (hd : edel e1 d = e2)
    (k : Ev (RR T s rs ((d, v) :: e2) H κ) Y) : Ev (RR T s ((some d, none, .mv x) :: rs) e H κ) Y := by
  refine RR_row ?_ k
  simp only [op1_none, step, hx, Option.map_some, put_some, eput, hd]
theorem w_call {d : Nat} {f : FuncId} {xs : List X} {rs} {e e1 e2 : Env} {H H1 : Heap} {vs : List V} {v : V} {κ : Env × Heap → Option β} {Y : Option β → Prop} (hx : evs xs e = some (vs, e1)) (ha : Call T s f vs H = some (v, H1)) (hw : (T.pu f || calm e1) = true) (hd : edel e1 d = e2)
    (k : Ev (RR T s rs ((d, v) :: e2) H1 κ) Y) : Ev (RR T s ((some d, none, .call f xs 0) :: rs) e H κ) Y := by
  refine RR_row ?_ k
  simp only [op1_none, step, hx, Option.bind_some, hw, if_true, chkN_of (nw := 0) (args := vs) (H := H) ha rfl, Option.map_some, put_some, eput, hd]
theorem okN_1 {vs : List V} {H H1 : Heap} (h : pre H H1 = true) : okN 1 vs H H1 = true := h
theorem okN_2 {i o : Nat} {vs : List V} {H H1 : Heap} (h : preX i H H1 = true) : okN 2 (.ptr i o :: vs) H H1 = true := h
theorem okN_app {vs : List V} {H X : Heap} : okN 1 vs H (H ++ X) = true := pre_app _ _
theorem w_calln {d nw : Nat} {f : FuncId} {xs : List X} {rs} {e e1 e2 : Env} {H H1 : Heap} {vs : List V} {v : V} {κ : Env × Heap → Option β} {Y : Option β → Prop} (hx : evs xs e = some (vs, e1)) (ha : Call T s f vs H = some (v, H1)) (hn : okN nw vs H H1 = true) (hw : (T.pu f || calm e1) = true) (hd : edel e1 d = e2)
    (k : Ev (RR T s rs ((d, v) :: e2) H1 κ) Y) : Ev (RR T s ((some d, none, .call f xs nw) :: rs) e H κ) Y := by
  refine RR_row ?_ k
  simp only [op1_none, step, hx, Option.bind_some, hw, if_true, chkN_of (nw := nw) (args := vs) ha hn, Option.map_some, put_some, eput, hd]
theorem w_call0 {f : FuncId} {xs : List X} {rs} {e e1 : Env} {H H1 : Heap} {vs : List V} {v : V} {κ : Env × Heap → Option β} {Y : Option β → Prop} (hx : evs xs e = some (vs, e1)) (ha : Call T s f vs H = some (v, H1)) (hw : (T.pu f || calm e1) = true)
    (k : Ev (RR T s rs e1 H1 κ) Y) : Ev (RR T s ((none, none, .call f xs 0) :: rs) e H κ) Y := by
  refine RR_row ?_ k
  simp only [op1_none, step, hx, Option.bind_some, hw, if_true, chkN_of (nw := 0) (args := vs) (H := H) ha rfl, Option.map_some, put_none]
theorem w_pick_t {d : Nat} {c a b : X} {rs} {e e1 e2 e3 : Env} {H : Heap} {v : V} {t : Bool} {κ : Env × Heap → Option β} {Y : Option β → Prop} (hc : evX c e = some (.bool t, e1)) (ht : t = true) (hx : evX a e1 = some (v, e2)) (hd : edel e2 d = e3)
    (k : Ev (RR T s rs ((d, v) :: e3) H κ) Y) : Ev (RR T s ((some d, none, .pick c a b) :: rs) e H κ) Y := by
  refine RR_row ?_ k
  subst ht
  simp only [op1_none, step, hc, Option.bind_some, if_true, hx, Option.map_some, put_some, eput, hd]
theorem w_pick_f {d : Nat} {c a b : X} {rs} {e e1 e2 e3 : Env} {H : Heap} {v : V} {t : Bool} {κ : Env × Heap → Option β} {Y : Option β → Prop} (hc : evX c e = some (.bool t, e1)) (ht : t = false) (hx : evX b e1 = some (v, e2)) (hd : edel e2 d = e3)
    (k : Ev (RR T s rs ((d, v) :: e3) H κ) Y) : Ev (RR T s ((some d, none, .pick c a b) :: rs) e H κ) Y := by
  refine RR_row ?_ k
  subst ht
  simp only [op1_none, step, hc, Option.bind_some, Bool.false_eq_true, if_false, hx, Option.map_some, put_some, eput, hd]
theorem w_ext {d i t : Nat} {rs} {e e1 e2 : Env} {H : Heap} {vs ws : List V} {v w : V} {κ : Env × Heap → Option β} {Y : Option β → Prop} (h : g e t = some (.tup vs)) (hv : vs[i]? = some v) (hn : v.ntup = some v) [dw : Dis2 v w] (hs : vs.set i w = ws) (he : edel e t = e1) (hd : edel ((t, .tup ws) :: e1) d = e2)
    (k : Ev (RR T s rs ((d, v) :: e2) H κ) Y) : Ev (RR T s ((some d, none, .exm i t) :: rs) e H κ) Y := by
  rw [g_eq] at h
  refine RR_row ?_ k
  simp only [op1_none, step, h, hv, Option.bind_some, hn, Option.map_some, put_some, eput, dw.eq, hs, he, hd]
/-- A guard whose outcome is known. -/
theorem w_onT {d : Option Nat} {q : Nat} {c : Bool} {i : I} {rs} {e : Env} {H : Heap} {κ : Env × Heap → Option β} {Y : Option β → Prop} (hg : g e q = some (.bool c)) (hc : c = true) (h : Ev (RR T s ((d, none, i) :: rs) e H κ) Y) : Ev (RR T s ((d, some (q, true), i) :: rs) e H κ) Y := by
  rw [g_eq] at hg; subst hc; exact rr_t hg h
theorem w_onF {d : Option Nat} {q : Nat} {c : Bool} {i : I} {rs} {e : Env} {H : Heap} {κ : Env × Heap → Option β} {Y : Option β → Prop} (hg : g e q = some (.bool c)) (hc : c = false) (h : Ev (RR T s ((d, none, i) :: rs) e H κ) Y) : Ev (RR T s ((d, some (q, false), i) :: rs) e H κ) Y := by
  rw [g_eq] at hg; subst hc; exact rr_t hg h
theorem w_offF {d : Nat} {q : Nat} {c : Bool} {i : I} {rs} {e e1 : Env} {H : Heap} {κ : Env × Heap → Option β} {Y : Option β → Prop} (hg : g e q = some (.bool c)) (hc : c = true) (hd : edel e d = e1) (h : Ev (RR T s rs ((d, .tup []) :: e1) H κ) Y) : Ev (RR T s ((some d, some (q, false), i) :: rs) e H κ) Y := by
  rw [g_eq] at hg; subst hc; exact rr_f hg (by rw [← hd]; rfl) h
theorem w_offT {d : Nat} {q : Nat} {c : Bool} {i : I} {rs} {e e1 : Env} {H : Heap} {κ : Env × Heap → Option β} {Y : Option β → Prop} (hg : g e q = some (.bool c)) (hc : c = false) (hd : edel e d = e1) (h : Ev (RR T s rs ((d, .tup []) :: e1) H κ) Y) : Ev (RR T s ((some d, some (q, true), i) :: rs) e H κ) Y := by
  rw [g_eq] at hg; subst hc; exact rr_f hg (by rw [← hd]; rfl) h
theorem w_off0F {q : Nat} {c : Bool} {i : I} {rs} {e : Env} {H : Heap} {κ : Env × Heap → Option β} {Y : Option β → Prop} (hg : g e q = some (.bool c)) (hc : c = true) (h : Ev (RR T s rs e H κ) Y) : Ev (RR T s ((none, some (q, false), i) :: rs) e H κ) Y := by
  rw [g_eq] at hg; subst hc; exact rr_f hg rfl h
theorem w_off0T {q : Nat} {c : Bool} {i : I} {rs} {e : Env} {H : Heap} {κ : Env × Heap → Option β} {Y : Option β → Prop} (hg : g e q = some (.bool c)) (hc : c = false) (h : Ev (RR T s rs e H κ) Y) : Ev (RR T s ((none, some (q, true), i) :: rs) e H κ) Y := by
  rw [g_eq] at hg; subst hc; exact rr_f hg rfl h
/-- One whose outcome is not. -/
theorem w_if {d : Option Nat} {q : Nat} {w c : Bool} {i : I} {rs} {e : Env} {H : Heap} {κ : Env × Heap → Option β} {Y : Option β → Prop} (hg : g e q = some (.bool c)) (h1 : c = true → Ev (RR T s ((d, some (q, w), i) :: rs) e H κ) Y) (h2 : c = false → Ev (RR T s ((d, some (q, w), i) :: rs) e H κ) Y) :
    Ev (RR T s ((d, some (q, w), i) :: rs) e H κ) Y := by
  cases c
  · exact h2 rfl
  · exact h1 rfl
theorem w_cnd_t {x : X} {a b : C} {e e1 : Env} {H : Heap} {κ : Out → Option β} {Y : Option β → Prop} {c : Bool} (h : evX x e = some (.bool c, e1)) (hc : c = true) (h1 : Ev (R T s a e1 H κ) Y) : Ev (R T s (.cnd x a b) e H κ) Y := by
  subst hc; exact R_cnd_t h h1
theorem w_cnd_f {x : X} {a b : C} {e e1 : Env} {H : Heap} {κ : Out → Option β} {Y : Option β → Prop} {c : Bool} (h : evX x e = some (.bool c, e1)) (hc : c = false) (h1 : Ev (R T s b e1 H κ) Y) : Ev (R T s (.cnd x a b) e H κ) Y := by
  subst hc; exact R_cnd_f h h1

/-! ### What operations come to -/
variable {H : Heap}
theorem a_fa {f id o p : Nat} (h : o + f = p) : apply s (.fa f) [.ptr id o] H = some (.ptr id p, H) := by rw [← h]; rfl
theorem a_fafp {f o p : Nat} {c : List V} (h : o + f = p) : apply s (.fa f) [.fp c o] H = some (.fp c p, H) := by rw [← h]; rfl
theorem a_nc {id o : Nat} : apply s .nc [.ptr id o] H = some (.ptr id o, H) := rfl
theorem a_ncfp {c : List V} {o : Nat} : apply s .nc [.fp c o] H = some (.fp c o, H) := rfl
theorem a_ld {id o : Nat} {cs : List V} {v w : V} (h : H[id]? = some cs) (hc : cs[o]? = some v) [d : Dis1 v w] : apply s .ld [.ptr id o] H = some (w, H) := by
  have := EVA.2.2.2.2.2.2.1 s id o H
  rw [this, hget_eq h, hc, Option.map_some, d.eq]
theorem a_ldfp {o : Nat} {cs : List V} {v w : V} (hc : cs[o]? = some v) [d : Dis1 v w] : apply s .ld [.fp cs o] H = some (w, H) := by
  have := EVA.2.2.2.2.2.2.2.1 s cs o H
  rw [this, hc, Option.map_some, d.eq]
theorem dt_len {o n : Nat} {cs ds : List V} (h : (cs.drop o).take n = ds) (hl : ds.length = n) : n = 0 ∨ o + n ≤ cs.length := by
  rw [← h, List.length_take, List.length_drop] at hl; omega
theorem a_ldn {id o n : Nat} {cs ds es : List V} (h : H[id]? = some cs) (hc : (cs.drop o).take n = ds) (hl : ds.length = n) (hn : Nat.beq n 0 = false) [d : DisL ds es] : apply s (.ldn n) [.ptr id o] H = some (.agg es, H) := by
  have := EVA.2.2.2.2.2.2.2.2.1 s n id o H
  have hn' : n ≠ 0 := fun k => by subst k; cases hn
  rw [this, hcells_eq h, if_pos ((dt_len hc hl).resolve_left hn'), hc, Option.map_some, d.eq]
theorem a_ldnfp {o n : Nat} {cs ds es : List V} (hc : (cs.drop o).take n = ds) (hl : ds.length = n) (hn : Nat.beq n 0 = false) [d : DisL ds es] : apply s (.ldn n) [.fp cs o] H = some (.agg es, H) := by
  have := EVA.2.2.2.2.2.2.2.2.2.1 s n cs o H
  have hn' : n ≠ 0 := fun k => by subst k; cases hn
  rw [this, if_pos ((dt_len hc hl).resolve_left hn'), hc, d.eq]
theorem a_lv {id o z n : Nat} {cs c : List V} (h : H[id]? = some cs) (hc : cs[o]? = some (.sl (some z) n c)) : apply s .lv [.ptr id o] H = some (.via id o n c, H) := by
  have := EVA.2.2.2.2.2.2.2.2.2.2.1 s id o H
  rw [this, hget_eq h, hc]; rfl
theorem a_ixn {z n i p : Nat} {w : Option Nat} {c : List V} {k : IntKind} (h : i < n) (hp : i * z = p) : apply s (.ix z) [.sl w n c, .int k (i : Nat)] H = some (.fp c p, H) := by
  rw [← hp, EVA.2.2.1, if_pos ⟨by omega, by omega⟩, Int.toNat_natCast]
theorem a_ixi {z n p : Nat} {i : Int} {w : Option Nat} {c : List V} {k : IntKind} (h0 : 0 ≤ i) (h : i < (n : Int)) (hp : i.toNat * z = p) : apply s (.ix z) [.sl w n c, .int k i] H = some (.fp c p, H) := by
  rw [← hp, EVA.2.2.1, if_pos ⟨h0, h⟩]
theorem a_ixai {z len id o p : Nat} {i : Int} {k : IntKind} (h0 : 0 ≤ i) (h : i < (len : Int)) (hp : o + i.toNat * z = p) : apply s (.ixa z len) [.ptr id o, .int k i] H = some (.ptr id p, H) := by
  rw [← hp, EVA.2.2.2.2.1, if_pos ⟨h0, h⟩]
theorem a_lss {k : IntKind} {a b : Int} : apply s (.bin .lss) [.int k a, .int k b] H = some (.bool (decide (a < b)), H) := by simp only [EVB, Option.map_some]
theorem a_leq {k : IntKind} {a b : Int} : apply s (.bin .leq) [.int k a, .int k b] H = some (.bool (decide (a ≤ b)), H) := by simp only [EVB, Option.map_some]
theorem a_gtr {k : IntKind} {a b : Int} : apply s (.bin .gtr) [.int k a, .int k b] H = some (.bool (decide (b < a)), H) := by simp only [EVB, Option.map_some]
theorem a_geq {k : IntKind} {a b : Int} : apply s (.bin .geq) [.int k a, .int k b] H = some (.bool (decide (b ≤ a)), H) := by simp only [EVB, Option.map_some]
theorem a_eql {k : IntKind} {a b : Int} : apply s (.bin .eql) [.int k a, .int k b] H = some (.bool (a == b), H) := by simp only [EVB, Option.map_some]
theorem a_neq {k : IntKind} {a b : Int} : apply s (.bin .neq) [.int k a, .int k b] H = some (.bool (a != b), H) := by simp only [EVB, Option.map_some]
theorem a_add {k : IntKind} {a b c : Int} (h : k.wrap (a + b) = c) : apply s (.bin .add) [.int k a, .int k b] H = some (.int k c, H) := by simp only [EVB, Option.map_some, h]
theorem a_sub {k : IntKind} {a b c : Int} (h : k.wrap (a - b) = c) : apply s (.bin .sub) [.int k a, .int k b] H = some (.int k c, H) := by simp only [EVB, Option.map_some, h]
theorem a_mul {k : IntKind} {a b c : Int} (h : k.wrap (a * b) = c) : apply s (.bin .mul) [.int k a, .int k b] H = some (.int k c, H) := by simp only [EVB, Option.map_some, h]
theorem a_beqf {a b : Bool} : apply s (.beq false) [.bool a, .bool b] H = some (.bool (a == b), H) := by simp only [EVB, Bool.false_bne]
theorem a_beqt {a b : Bool} : apply s (.beq true) [.bool a, .bool b] H = some (.bool (a != b), H) := by simp only [EVB]; cases a <;> cases b <;> rfl
theorem a_not {a : Bool} : apply s (.un .not) [.bool a] H = some (.bool !a, H) := by simp only [EVB, Option.map_some]
theorem a_pnil {id o : Nat} : apply s (.peq false) [.ptr id o, .nilp] H = some (.bool false, H) := rfl
theorem a_pnn {id o : Nat} : apply s (.peq true) [.ptr id o, .nilp] H = some (.bool true, H) := rfl
theorem a_pnilfp {c : List V} {o : Nat} : apply s (.peq false) [.fp c o, .nilp] H = some (.bool false, H) := rfl
theorem a_pnnfp {c : List V} {o : Nat} : apply s (.peq true) [.fp c o, .nilp] H = some (.bool true, H) := rfl
theorem a_nilnil : apply s (.peq false) [.nilp, .nilp] H = some (.bool true, H) := rfl
theorem a_nilnn : apply s (.peq true) [.nilp, .nilp] H = some (.bool false, H) := rfl
theorem a_len {w : Option Nat} {n : Nat} {c : List V} : apply s (.len false) [.sl w n c] H = some (.int .i64 n, H) := rfl
theorem a_lenar {a b c n r : Nat} : apply s (.len false) [.ar a b c n r] H = some (.int .i64 n, H) := rfl
theorem a_lennls : apply s (.len false) [.nls] H = some (.int .i64 0, H) := rfl
theorem a_lens {t : List UInt8} : apply s (.len true) [.str t] H = some (.int .i64 t.length, H) := rfl
theorem a_kst {v : V} {vs : List V} : apply s (.kst v) vs H = some (v, H) := rfl
theorem a_box {n : Nat} {v : V} {cs : List V} [hc : Cells v cs] (hl : cs.length = n) : apply s (.box n) [v] H = some (.ptr H.length 0, H ++ [cs]) := by
  have := hc.eq; subst this; subst hl; simp [apply, aBox, hc.bx]
theorem a_bfp {n : Nat} {v : V} {cs ds : List V} [hc : Cells v cs] (hl : cs.length = n) [d : DisL cs ds] : apply s (.bfp n) [v] H = some (.fp ds 0, H) := by
  have := hc.eq; subst this; subst hl; simp [apply, aBfp, hc.bx, d.eq]
theorem a_alc {z : List V} : apply s (.alc z) [] H = some (.ptr H.length 0, H ++ [z]) := rfl
theorem a_st {id o : Nat} {v : V} {cs ds : List V} {H' : Heap} (h : H[id]? = some cs) (ho : (cs[o]?).isSome = true) (hs : v.single = true) (hm : mayW s id (fun m => v.rb m) = true) (hd : cs.set o v = ds) (hH : H.set id ds = H') : apply s .st [.ptr id o, v] H = some (.tup [], H') := by
  have := EVA.2.2.2.2.2.2.2.2.2.2.2.2.2.2.1 s id o v H
  rw [this, hs, hget_eq h, ho, hm, hset_eq h, hd, hH]; rfl
theorem a_stn {n id o : Nat} {xs cs ds : List V} {H' : Heap} (h : H[id]? = some cs) (hx : xs.length = n) (ho : o + n ≤ cs.length) (hm : mayW s id (fun m => V.rbL m xs) = true) (hd : lay cs o xs = ds) (hH : H.set id ds = H') : apply s (.stn n) [.ptr id o, .agg xs] H = some (.tup [], H') := by
  have := EVA.2.2.2.2.2.2.2.2.2.2.2.2.2.2.2.1 s n id o xs H
  rw [this, hcells_eq h, if_pos ho, hm, h]
  simp [hx, hd, hH]
theorem a_bld {z : List V} {ps : List (Nat × Nat)} {vs cs : List V} (h : fillV z ps vs = some cs) : apply s (.bld z ps) vs H = some (.agg cs, H) := by
  have := EVA.2.2.2.2.2.2.2.2.2.2.2.2.2.2.2.2.2.2.2.2.2.2.2.1 s z ps vs H
  rw [this, h]; rfl
theorem a_bsl1 {sz : Nat} {z cs ds : List V} {v : V} [hc : Cells v cs] (hl : cs.length = sz) (hz : z.length = sz) (hs : sz ≤ 16777216) [d : DisL cs ds] : apply s (.bsl sz z 1 [0]) [v] H = some (.sl (some sz) 1 ds, H) := by
  have := hc.eq; subst this
  have hb := hc.bx
  simp only [apply]
  rw [if_pos (by omega)]
  have : fillV (reps z 1) ([0].map (·, sz)) [v] = some v.cells := by
    simp [reps, fillV, hb, hl, hz, lay]
  rw [this, Option.map_some, d.eq]
theorem fv_nil {cs : List V} : fillV cs [] [] = some cs := rfl
theorem fv_one {o : Nat} {cs ds es : List V} {v : V} {ps : List (Nat × Nat)} {vs : List V} (hs : v.single = true) (ho : o < cs.length) (hd : cs.set o v = ds) (r : fillV ds ps vs = some es) : fillV cs ((o, 1) :: ps) (v :: vs) = some es := by
  have h1 : v.cells = [v] := by cases v <;> first | rfl | cases hs
  have h2 : v.boxy = true := by cases v <;> first | rfl | cases hs
  have h3 : lay cs o [v] = cs.set o v := by
    rw [lay, List.set_eq_take_append_cons_drop, if_pos ho]; simp
  rw [fillV, h1, h2, if_pos ⟨rfl, rfl, ho⟩, h3, hd, r]
theorem fv_many {o z : Nat} {cs ds es xs : List V} {ps : List (Nat × Nat)} {vs : List V} (hx : xs.length = z) (ho : o + z ≤ cs.length) (hd : lay cs o xs = ds) (r : fillV ds ps vs = some es) : fillV cs ((o, z) :: ps) (.agg xs :: vs) = some es := by
  rw [fillV, if_pos ⟨rfl, hx, ho⟩]
  show fillV (lay cs o xs) ps vs = _
  rw [hd, r]
theorem a_bsl0 {sz : Nat} {z : List V} : apply s (.bsl sz z 0 []) [] H = some (.sl (some sz) 0 [], H) := by
  simp [apply, reps, fillV]
theorem a_app {z y n m : Nat} {w : Option Nat} {cs ds es : List V} (hc : cs.length = n * z) (hd : ds.length = m * z) (hr : (n + m) * y ≤ room) (he : cs ++ ds = es) : apply s (.app z y) [.sl (some z) n cs, .sl w m ds] H = some (.sl (some z) (n + m) es, H) := by
  subst he
  simp [apply, aApp, appendTo, tail, hc, hd, hr]
theorem a_apv {z y n m id off : Nat} {w : Option Nat} {cs ds es os ps : List V} {H' : Heap} (h : H[id]? = some os) (ho : os[off]? = some (.sl (some z) n cs)) (hm : mayW s id (fun _ => true) = true) (hs : os.set off (.sl none n cs) = ps) (hH : H.set id ps = H')
    (hc : cs.length = n * z) (hd : ds.length = m * z) (hr : (n + m) * y ≤ room) (he : cs ++ ds = es) {n0 : Nat} {c0 : List V} : apply s (.apv z y) [.via id off n0 c0, .sl w m ds] H = some (.sl (some z) (n + m) es, H') := by
  subst he
  simp only [apply, aApv, hm, if_true, hget_eq h, ho, Option.bind_some, hset_eq h, V.dis1, hs, hH]
  simp [appendTo, tail, hc, hd, hr]
theorem a_fld {o : Nat} {cs : List V} {v : V} (h : cs[o]? = some v) (hn : v.ntup = some v) : apply s (.fld o none) [.agg cs] H = some (v, H) := by
  rw [EVP.1, h, Option.bind_some, hn]; rfl
theorem a_fldn {o n : Nat} {cs ds : List V} (h : (cs.drop o).take n = ds) (hl : o + n ≤ cs.length) : apply s (.fld o (some n)) [.agg cs] H = some (.agg ds, H) := by
  rw [EVP.2, if_pos hl, h]
theorem a_ext {i : Nat} {vs : List V} {v : V} (h : vs[i]? = some v) (hn : v.ntup = some v) : apply s (.ext i) [.tup vs] H = some (v, H) := by
  simp only [apply, aExt, h, Option.bind_some, hn, Option.map_some]
theorem a_b2s {w : Option Nat} {n : Nat} {cs : List V} {t : List UInt8} (hl : cs.length = n) (h : bytesOf cs = some t) : apply s .b2s [.sl w n cs] H = some (.str t, H) := by
  simp only [apply, aB2s, hl, if_true, h, Option.map_some]
theorem a_seql {a b : List UInt8} : apply s (.bin .eql) [.str a, .str b] H = some (.bool (a == b), H) := by simp only [EVB, Option.map_some]
theorem a_sneq {a b : List UInt8} : apply s (.bin .neq) [.str a, .str b] H = some (.bool !(a == b), H) := by simp only [EVB, Option.map_some]
theorem a_cvi {k j : IntKind} {n m : Int} (h : k.wrap n = m) : apply s (.cvi k) [.int j n] H = some (.int k m, H) := by rw [← h]; rfl
theorem a_mx {k j : IntKind} {x y : Int} : apply s .mx [.int k x, .int j y] H = some (.int k (max x y), H) := by
  simp only [apply, aMx, mxn, gt_iff_lt, decide_eq_true_eq, Option.map_some]
  by_cases h : x < y
  · rw [if_pos h, Int.max_eq_right (by omega)]
  · rw [if_neg h, Int.max_eq_left (by omega)]
theorem a_mn {k j : IntKind} {x y : Int} : apply s .mn [.int k x, .int j y] H = some (.int k (min x y), H) := by
  simp only [apply, aMn, mxn, decide_eq_true_eq, Option.map_some]
  by_cases h : y < x
  · rw [if_pos h, Int.min_eq_right (by omega)]
  · rw [if_neg h, Int.min_eq_left (by omega)]

/-! ### Heaps -/
theorem h_new {c : List V} {m : Nat} (hl : H.length = m) : (H ++ [c])[m]? = some c := by subst hl; rw [List.getElem?_append_right (Nat.le_refl _), Nat.sub_self]; rfl
theorem h_old {L : Heap} {id : Nat} {c : List V} (h : H[id]? = some c) : (H ++ L)[id]? = some c := by rw [List.getElem?_append_left (List.getElem?_eq_some_iff.1 h).1]; exact h
theorem h_set {id : Nat} {c d : List V} (h : H[id]? = some c) : (H.set id d)[id]? = some d := by rw [List.getElem?_set_self (List.getElem?_eq_some_iff.1 h).1]
theorem h_ne {id j : Nat} {c d : List V} (hn : j ≠ id) (h : H[id]? = some c) : (H.set j d)[id]? = some c := by rw [List.getElem?_set_ne hn]; exact h
theorem s_new {c d : List V} {m : Nat} (hl : H.length = m) : (H ++ [c]).set m d = H ++ [d] := by subst hl; rw [List.set_append_right _ _ (Nat.le_refl _), Nat.sub_self]; rfl
theorem s_old {H' L : Heap} {id : Nat} {c d : List V} (h : H[id]? = some c) (hs : H.set id d = H') : (H ++ L).set id d = H' ++ L := by rw [List.set_append_left _ _ (List.getElem?_eq_some_iff.1 h).1, hs]
theorem s_same {id : Nat} {c d : List V} : (H.set id c).set id d = H.set id d := by rw [List.set_set]
theorem m_none {id : Nat} {ok : Nat → Bool} : mayW none id ok = true := rfl
theorem m_some {l id : Nat} {ok : Nat → Bool} (h : l ≤ id) : mayW (some l) id ok = true := by simp [mayW, h]
theorem t_same {e : Env} {G : Heap} (h : H.length ≤ G.length) : trim s G e H = H := by
  unfold trim
  split
  · rw [if_neg (by omega)]
  · rfl
/-- Of the objects of G from l on: each is what it was, or names none that came since. -/
def KB (l : Nat) (G H : Heap) : Prop := ∀ (i : Nat) a b, l ≤ i → G[i]? = some a → H[i]? = some b → a = b ∨ V.rbL G.length b = true
theorem kb_list {m : Nat} : ∀ {G H : Heap}, (∀ (i : Nat) a b, G[i]? = some a → H[i]? = some b → a = b ∨ V.rbL m b = true) → keptL m G H = true
  | [], _, _ => by simp [keptL]
  | _ :: _, [], _ => by simp [keptL]
  | g :: G, x :: H, h => by
    simp only [keptL, Bool.and_eq_true, Bool.or_eq_true]
    refine ⟨?_, kb_list fun i a b h1 h2 => h (i + 1) a b (by simpa using h1) (by simpa using h2)⟩
    exact (h 0 g x rfl rfl).imp (fun e => by rw [e]; exact eqL_refl x) id
theorem kb_kept {l : Nat} {G : Heap} (h : KB l G H) : keptB l G H = true :=
  kb_list fun i a b h1 h2 => h (l + i) a b (by omega) (by rwa [List.getElem?_drop] at h1) (by rwa [List.getElem?_drop] at h2)
theorem kb_refl {l : Nat} : KB l H H := fun i a b _ h1 h2 => .inl (by rw [h1] at h2; cases h2; rfl)
theorem kb_nil {l : Nat} : KB l [] H := fun i a b _ h1 _ => by simp at h1
theorem kb_all {l : Nat} {G : Heap} (h : G.length ≤ l) : KB l G H := fun i a b hi h1 _ => by
  have := (List.getElem?_eq_some_iff.1 h1).1; omega
theorem kb_app {l : Nat} {G L : Heap} (h : KB l G H) (hl : G.length ≤ H.length) : KB l G (H ++ L) := fun i a b hi h1 h2 => by
  have := (List.getElem?_eq_some_iff.1 h1).1
  rw [List.getElem?_append_left (by omega)] at h2
  exact h i a b hi h1 h2
theorem kb_set {l id : Nat} {G : Heap} {c : List V} (h : KB l G H) (k : V.rbL G.length c = true) : KB l G (H.set id c) := fun i a b hi h1 h2 => by
  rw [List.getElem?_set] at h2
  split at h2
  · split at h2
    · cases h2; exact .inr k
    · cases h2
  · exact h i a b hi h1 h2
theorem kb_far {l id : Nat} {G : Heap} {c : List V} (h : KB l G H) (k : G.length ≤ id) : KB l G (H.set id c) := fun i a b hi h1 h2 => by
  have := (List.getElem?_eq_some_iff.1 h1).1
  rw [List.getElem?_set_ne (by omega)] at h2
  exact h i a b hi h1 h2
theorem t_any {l : Nat} {e : Env} {G : Heap} (hl : l ≤ G.length) (he : e.all (fun p => p.2.rb G.length) = true) (hm : G.length ≤ H.length) (hk : KB l G H) : trim (some l) G e H = H.take G.length := by
  show (if l ≤ G.length ∧ G.length < H.length ∧ e.all (fun p => p.2.rb G.length) = true ∧ keptB l G H = true then H.take G.length else H) = _
  by_cases h : G.length < H.length
  · rw [if_pos ⟨hl, h, he, kb_kept hk⟩]
  · have : G.length = H.length := by omega
    rw [if_neg (fun k => h k.2.1), this, List.take_length]
theorem t_cut {l : Nat} {e : Env} {G L : Heap} (hl : l ≤ G.length) (hm : H.length = G.length) (he : e.all (fun p => p.2.rb G.length) = true) (hk : KB l G H) : trim (some l) G e (H ++ L) = H := by
  rw [t_any hl he (by rw [List.length_append]; omega) (kb_app hk (by omega)), ← hm]
  exact List.take_left ..
theorem t_not {l : Nat} {e : Env} {G : Heap} (he : e.all (fun p => p.2.rb G.length) = false) : trim (some l) G e H = H := by
  show (if l ≤ G.length ∧ G.length < H.length ∧ e.all (fun p => p.2.rb G.length) = true ∧ keptB l G H = true then H.take G.length else H) = _
  rw [if_neg (fun k => by rw [he] at k; exact absurd k.2.2.1 (by simp))]
end

theorem al_nil {m : Nat} : ([] : Env).all (fun p => p.2.rb m) = true := rfl
theorem al_cons {m s : Nat} {v : V} {e : Env} (h : V.rb m v = true) (r : e.all (fun p => p.2.rb m) = true) : ((s, v) :: e : Env).all (fun p => p.2.rb m) = true := by rw [List.all_cons, h, r]; rfl
theorem is_of {cs : List V} {o : Nat} {v : V} (h : cs[o]? = some v) : (cs[o]?).isSome = true := by rw [h]; rfl
theorem is_set {cs : List V} {o j : Nat} {v : V} (h : (cs[o]?).isSome = true) : ((cs.set j v)[o]?).isSome = true := by
  obtain ⟨w, hw⟩ := Option.isSome_iff_exists.1 h
  have : o < (cs.set j v).length := by rw [List.length_set]; exact (List.getElem?_eq_some_iff.1 hw).1
  rw [List.getElem?_eq_getElem this]; rfl
theorem g_same {cs : List V} {o : Nat} {v : V} (h : (cs[o]?).isSome = true) : (cs.set o v)[o]? = some v := by
  obtain ⟨w, hw⟩ := Option.isSome_iff_exists.1 h
  rw [List.getElem?_set_self (List.getElem?_eq_some_iff.1 hw).1]
theorem g_ne {cs : List V} {o j : Nat} {v w : V} (hn : j ≠ o) (h : cs[o]? = some w) : (cs.set j v)[o]? = some w := by rw [List.getElem?_set_ne hn]; exact h
theorem rb_int {k n m} : V.rb m (.int k n) = true := by simp only [V.rb]
theorem rb_bool {b m} : V.rb m (.bool b) = true := by simp only [V.rb]
theorem rb_str {b m} : V.rb m (.str b) = true := by simp only [V.rb]
theorem rb_sl {o n c m} (h : V.rbL m c = true) : V.rb m (.sl o n c) = true := by simp only [V.rb, h]
theorem rb_nil {m} : V.rbL m [] = true := by simp only [V.rbL]
theorem rb_cons {v r m} (h : V.rb m v = true) (k : V.rbL m r = true) : V.rbL m (v :: r) = true := by simp only [V.rbL, h, k, Bool.and_self]
theorem rb_app {a b m} (h : V.rbL m a = true) (k : V.rbL m b = true) : V.rbL m (a ++ b) = true := by
  induction a with
  | nil => exact k
  | cons v r ih =>
    simp only [V.rbL, Bool.and_eq_true, List.cons_append] at *
    exact ⟨h.1, ih h.2⟩
theorem rb_set {c m i v} (h : V.rbL m c = true) (k : V.rb m v = true) : V.rbL m (c.set i v) = true := by
  induction c generalizing i with
  | nil => simpa using h
  | cons x r ih =>
    simp only [V.rbL, Bool.and_eq_true] at h
    cases i with
    | zero => simp only [List.set_cons_zero, V.rbL, k, h.2, Bool.and_self]
    | succ i => simp only [List.set_cons_succ, V.rbL, h.1, ih h.2, Bool.and_self]
theorem rb_agg {c m} (h : V.rbL m c = true) : V.rb m (.agg c) = true := by simp only [V.rb, h]
theorem rb_ptr {i o m} (h : i < m) : V.rb m (.ptr i o) = true := by simp only [V.rb, h, decide_true]

/-- What a call hands back of objects of its own. -/
class Frz1 (H : Heap) (m : Nat) (v : V) (w : outParam V) : Prop where eq : frz1 H m v = w
class FrzL (H : Heap) (m : Nat) (cs : List V) (ds : outParam (List V)) : Prop where eq : cs.map (frz1 H m) = ds
class Frz (H : Heap) (m : Nat) (v : V) (w : outParam V) : Prop where eq : frz H m v = w
class FrzA (H : Heap) (m : Nat) (cs : List V) (ds : outParam (List V)) : Prop where eq : cs.map (frz H m) = ds
instance (priority := low) (H m) (v : V) : Frz1 H m v (frz1 H m v) := ⟨rfl⟩
instance (priority := low) (H m) (v : V) : Frz H m v (frz H m v) := ⟨rfl⟩
instance (priority := low) (H m) (cs : List V) : FrzL H m cs (cs.map (frz1 H m)) := ⟨rfl⟩
instance (H m) : FrzL H m [] [] := ⟨rfl⟩
instance (H m) {v w : V} {r s : List V} [h : Frz1 H m v w] [k : FrzL H m r s] : FrzL H m (v :: r) (w :: s) := ⟨by rw [List.map_cons, h.eq, k.eq]⟩
instance (H m) : FrzA H m [] [] := ⟨rfl⟩
instance (H m) {v w : V} {r s : List V} [h : Frz H m v w] [k : FrzA H m r s] : FrzA H m (v :: r) (w :: s) := ⟨by rw [List.map_cons, h.eq, k.eq]⟩
instance (H m) {c d : List V} [h : FrzL H m c d] : Frz H m (.agg c) (.agg d) := ⟨by rw [frz, h.eq]⟩
instance (H m) (b) : Frz1 H m (.bool b) (.bool b) := ⟨rfl⟩
instance (H m) (b) : Frz H m (.bool b) (.bool b) := ⟨rfl⟩
instance (H m) (k n) : Frz1 H m (.int k n) (.int k n) := ⟨rfl⟩
instance (H m) (k n) : Frz H m (.int k n) (.int k n) := ⟨rfl⟩
instance (H m) (l) : Frz1 H m (.str l) (.str l) := ⟨rfl⟩
instance (H m) (l) : Frz H m (.str l) (.str l) := ⟨rfl⟩
instance (H m) (i o) : Frz1 H m (.ptr i o) (.ptr i o) := ⟨rfl⟩
instance (H m) (i o) : Frz H m (.ptr i o) (.ptr i o) := ⟨rfl⟩
instance (H m)  : Frz1 H m (.nilp) (.nilp) := ⟨rfl⟩
instance (H m)  : Frz H m (.nilp) (.nilp) := ⟨rfl⟩
instance (H m) (c i) : Frz1 H m (.fp c i) (.fp c i) := ⟨rfl⟩
instance (H m) (c i) : Frz H m (.fp c i) (.fp c i) := ⟨rfl⟩
instance (H m) (o n c) : Frz1 H m (.sl o n c) (.sl o n c) := ⟨rfl⟩
instance (H m) (o n c) : Frz H m (.sl o n c) (.sl o n c) := ⟨rfl⟩
instance (H m) (f c) : Frz1 H m (.fn f c) (.fn f c) := ⟨rfl⟩
instance (H m) (f c) : Frz H m (.fn f c) (.fn f c) := ⟨rfl⟩
instance (H m)  : Frz1 H m (.nilf) (.nilf) := ⟨rfl⟩
instance (H m)  : Frz H m (.nilf) (.nilf) := ⟨rfl⟩
instance (H m) (t v) : Frz1 H m (.ifc t v) (.ifc t v) := ⟨rfl⟩
instance (H m) (t v) : Frz H m (.ifc t v) (.ifc t v) := ⟨rfl⟩
instance (H m)  : Frz1 H m (.nili) (.nili) := ⟨rfl⟩
instance (H m)  : Frz1 H m (.nls) (.sl none 0 []) := ⟨rfl⟩
instance (H m)  : Frz H m (.nls) (.sl none 0 []) := ⟨rfl⟩
instance (H m)  : Frz H m (.nili) (.nili) := ⟨rfl⟩

theorem ra_nil {e : Env} {H : Heap} : resAll e H [] = some [] := rfl
theorem ra_t {n : Nat} {rs : List Rs} {e : Env} {H : Heap} {v : V} {vs : List V} (h : g e n = some v) (hv : v.noVia = true) (r : resAll e H rs = some vs) : resAll e H (.t n :: rs) = some (v :: vs) := by
  rw [g_eq] at h; simp only [resAll, resOf, h, Option.bind_some, hv, if_true, r, Option.map_some]
theorem ra_cell {n id o : Nat} {rs : List Rs} {e : Env} {H : Heap} {cs : List V} {v w : V} {vs : List V} (h : g e n = some (.ptr id o)) (hH : H[id]? = some cs) (hc : cs[o]? = some v) (d : Dis1 v w) (hv : w.noVia = true) (r : resAll e H rs = some vs) : resAll e H (.cell n :: rs) = some (w :: vs) := by
  rw [g_eq] at h; simp only [resAll, resOf, h, hget_eq hH, hc, Option.map_some, d.eq, Option.bind_some, hv, if_true, r]
theorem ra_cells {n id o z : Nat} {rs : List Rs} {e : Env} {H : Heap} {cs ds es : List V} {vs : List V} (h : g e n = some (.ptr id o)) (hH : H[id]? = some cs) (hc : (cs.drop o).take z = ds) (hl : ds.length = z) (hn : Nat.beq z 0 = false) (d : DisL ds es) (r : resAll e H rs = some vs) : resAll e H (.cells n z :: rs) = some (.agg es :: vs) := by
  have hn' : z ≠ 0 := fun k => by subst k; cases hn
  rw [g_eq] at h; simp only [resAll, resOf, h, hcells_eq hH, if_pos ((dt_len hc hl).resolve_left hn'), hc, Option.map_some, d.eq, Option.bind_some, V.noVia, if_true, r]
theorem f_P {s : Option Nat} {H H0 H' : Heap} {vs ws : List V} {v : V} [d : FrzA H' H0.length vs ws] (hr : V.rbL H0.length ws = true) (ht : tie ws = v) : finish .P s H H0 vs H' = some (v, H) := by
  simp only [finish, d.eq, hr, if_true, ht]
theorem f_T {l : Nat} {H H0 H' H'' : Heap} {vs : List V} {v : V} (hr : V.rbL H.length vs = true) (hk : keptB l H H' = true) (ht : tie vs = v) (hH : H'.take H.length = H'') : finish .T (some l) H H0 vs H' = some (v, H'') := by
  simp only [finish, hr, hk, Bool.and_self, if_true, ht, hH]
theorem f_K {s : Option Nat} {H H0 H' : Heap} {vs : List V} {v : V} (ht : tie vs = v) : finish .K s H H0 vs H' = some (v, H') := by simp only [finish, ht]
theorem tie1 {v : V} : tie [v] = v := rfl
theorem tie2 {v w : V} : tie [v, w] = .tup [v, w] := rfl
theorem tie0 : tie [] = .tup [] := rfl
theorem tie3 {u v w : V} : tie [u, v, w] = .tup [u, v, w] := rfl
theorem tk_all {H : Heap} : H.take H.length = H := List.take_length ..
theorem tk_app {H L : Heap} {m : Nat} (h : H.length = m) : (H ++ L).take m = H := by subst h; exact List.take_left ..
theorem tk_len {H : Heap} {m : Nat} (h : H.length = m) : H.take m = H := by subst h; exact List.take_length ..
theorem l_app {H G : Heap} {c d : List V} (h : H.length = G.length) : (H ++ [c]).length = (G ++ [d]).length := by simp [h]
theorem l_set {H : Heap} {m id : Nat} {d : List V} (h : H.length = m) : (H.set id d).length = m := by rw [List.length_set, h]

section
variable {β : Type} {T : Tab} {s : Option Nat}
theorem w_ifD {d : Option Nat} {q : Nat} {w : Bool} {p : Prop} [Decidable p] {i : I} {rs} {e : Env} {H : Heap} {κ : Env × Heap → Option β} {Y : Option β → Prop} (hg : g e q = some (.bool (decide p))) (h1 : p → Ev (RR T s ((d, some (q, w), i) :: rs) e H κ) Y) (h2 : ¬ p → Ev (RR T s ((d, some (q, w), i) :: rs) e H κ) Y) :
    Ev (RR T s ((d, some (q, w), i) :: rs) e H κ) Y := by
  by_cases hp : p
  · exact h1 hp
  · exact h2 hp
theorem w_ifE {d : Option Nat} {q : Nat} {w : Bool} {a b : Int} {i : I} {rs} {e : Env} {H : Heap} {κ : Env × Heap → Option β} {Y : Option β → Prop} (hg : g e q = some (.bool (a == b))) (h1 : a = b → Ev (RR T s ((d, some (q, w), i) :: rs) e H κ) Y) (h2 : ¬ a = b → Ev (RR T s ((d, some (q, w), i) :: rs) e H κ) Y) :
    Ev (RR T s ((d, some (q, w), i) :: rs) e H κ) Y := by
  by_cases hp : a = b
  · exact h1 hp
  · exact h2 hp
theorem w_ifN {d : Option Nat} {q : Nat} {w : Bool} {a b : Int} {i : I} {rs} {e : Env} {H : Heap} {κ : Env × Heap → Option β} {Y : Option β → Prop} (hg : g e q = some (.bool (a != b))) (h1 : ¬ a = b → Ev (RR T s ((d, some (q, w), i) :: rs) e H κ) Y) (h2 : a = b → Ev (RR T s ((d, some (q, w), i) :: rs) e H κ) Y) :
    Ev (RR T s ((d, some (q, w), i) :: rs) e H κ) Y := by
  by_cases hp : a = b
  · exact h2 hp
  · exact h1 hp
theorem c_ifD {x : X} {a b : C} {p : Prop} [Decidable p] {e e1 : Env} {H : Heap} {κ : Out → Option β} {Y : Option β → Prop} (h : evX x e = some (.bool (decide p), e1)) (h1 : p → Ev (R T s a e1 H κ) Y) (h2 : ¬ p → Ev (R T s b e1 H κ) Y) : Ev (R T s (.cnd x a b) e H κ) Y :=
  R_cnd h (fun k => h1 (of_decide_eq_true k)) (fun k => h2 (of_decide_eq_false k))
theorem c_ifE {x : X} {a b : C} {p q : Int} {e e1 : Env} {H : Heap} {κ : Out → Option β} {Y : Option β → Prop} (h : evX x e = some (.bool (p == q), e1)) (h1 : p = q → Ev (R T s a e1 H κ) Y) (h2 : ¬ p = q → Ev (R T s b e1 H κ) Y) : Ev (R T s (.cnd x a b) e H κ) Y :=
  R_cnd h (fun k => h1 (by simpa using k)) (fun k => h2 (by simpa using k))
theorem c_ifN {x : X} {a b : C} {p q : Int} {e e1 : Env} {H : Heap} {κ : Out → Option β} {Y : Option β → Prop} (h : evX x e = some (.bool (p != q), e1)) (h1 : ¬ p = q → Ev (R T s a e1 H κ) Y) (h2 : p = q → Ev (R T s b e1 H κ) Y) : Ev (R T s (.cnd x a b) e H κ) Y :=
  R_cnd h (fun k => h1 (by simpa using k)) (fun k => h2 (by simpa using k))
theorem c_if {x : X} {a b : C} {c : Bool} {e e1 : Env} {H : Heap} {κ : Out → Option β} {Y : Option β → Prop} (h : evX x e = some (.bool c, e1)) (h1 : c = true → Ev (R T s a e1 H κ) Y) (h2 : c = false → Ev (R T s b e1 H κ) Y) : Ev (R T s (.cnd x a b) e H κ) Y := R_cnd h h1 h2
end
theorem nt_t {c : Bool} (h : c = true) : (!c) = false := by rw [h]; rfl
theorem nt_f {c : Bool} (h : c = false) : (!c) = true := by rw [h]; rfl
theorem b_eq {a b : Int} (h : a = b) : (a == b) = true := by simpa using h
theorem b_ne {a b : Int} (h : ¬ a = b) : (a == b) = false := by simpa using h
theorem n_eq {a b : Int} (h : a = b) : (a != b) = false := by simpa using h
theorem n_ne {a b : Int} (h : ¬ a = b) : (a != b) = true := by simpa using h
end Go.Abs
