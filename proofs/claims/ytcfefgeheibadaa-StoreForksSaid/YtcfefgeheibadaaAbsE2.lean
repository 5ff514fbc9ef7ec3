/-
  Equations by which the machine's rows are reckoned, in few bundles.
-/
import Derived.Test.YtcfefgeheibadaaAbsE1
namespace Go.Abs

section
variable {β : Type} {T : Tab} {s : Option Nat}
theorem r_seq {a b : C} {e : Env} {H : Heap} {κ : Out → Option β} {Y : Option β → Prop} (h : Ev (R T s a e H (kSeq T s b κ)) Y) : Ev (R T s (.seq a b) e H κ) Y := by rw [R_seq]; exact h
theorem r_nop {e : Env} {H : Heap} {κ : Out → Option β} {Y : Option β → Prop} (h : Ev (κ (.nrm, e, H)) Y) : Ev (R T s .nop e H κ) Y := by rw [R_nop]; exact h
theorem r_ret {e : Env} {H : Heap} {κ : Out → Option β} {Y : Option β → Prop} (h : Ev (κ (.ret, e, H)) Y) : Ev (R T s .ret e H κ) Y := by rw [R_ret]; exact h
theorem r_exit {id : Nat} {e : Env} {H : Heap} {κ : Out → Option β} {Y : Option β → Prop} (h : Ev (κ (.exit id, e, H)) Y) : Ev (R T s (.exit id) e H κ) Y := by rw [R_exit]; exact h
theorem r_blk {id : Nat} {c : C} {e : Env} {H : Heap} {κ : Out → Option β} {Y : Option β → Prop} (h : Ev (R T s c e H (kBlk id κ)) Y) : Ev (R T s (.blk id c) e H κ) Y := by rw [R_blk]; exact h
theorem r_loop {c : C} {e : Env} {H : Heap} {κ : Out → Option β} {Y : Option β → Prop} (h : Ev (R T s c e H (kLp T s c H κ)) Y) : Ev (R T s (.loop c) e H κ) Y := by rw [R_loop]; exact h
theorem k_seq_nrm {c : C} {e : Env} {H : Heap} {κ : Out → Option β} {Y : Option β → Prop} (h : Ev (R T s c e H κ) Y) : Ev (kSeq T s c κ (.nrm, e, H)) Y := h
theorem k_seq_ret {c : C} {e : Env} {H : Heap} {κ : Out → Option β} {Y : Option β → Prop} (h : Ev (κ (.ret, e, H)) Y) : Ev (kSeq T s c κ (.ret, e, H)) Y := h
theorem k_seq_exit {c : C} {e : Env} {H : Heap} {κ : Out → Option β} {Y : Option β → Prop} {j : Nat} (h : Ev (κ (.exit j, e, H)) Y) : Ev (kSeq T s c κ (.exit j, e, H)) Y := h
theorem k_blk_nrm {id : Nat} {e : Env} {H : Heap} {κ : Out → Option β} {Y : Option β → Prop} (h : Ev (κ (.nrm, e, H)) Y) : Ev (kBlk id κ (.nrm, e, H)) Y := h
theorem k_blk_ret {id : Nat} {e : Env} {H : Heap} {κ : Out → Option β} {Y : Option β → Prop} (h : Ev (κ (.ret, e, H)) Y) : Ev (kBlk id κ (.ret, e, H)) Y := h
theorem k_blk_hit {id : Nat} {e : Env} {H : Heap} {κ : Out → Option β} {Y : Option β → Prop} (h : Ev (κ (.nrm, e, H)) Y) : Ev (kBlk id κ (.exit id, e, H)) Y := by rw [kBlk_exit, if_pos rfl]; exact h
theorem k_blk_miss {id j : Nat} {e : Env} {H : Heap} {κ : Out → Option β} {Y : Option β → Prop} (hj : j ≠ id) (h : Ev (κ (.exit j, e, H)) Y) : Ev (kBlk id κ (.exit j, e, H)) Y := by rw [kBlk_exit, if_neg hj]; exact h
theorem k_lp_nrm {c : C} {m : Heap} {e : Env} {H H1 : Heap} {κ : Out → Option β} {Y : Option β → Prop} (ht : trim s m e H = H1) (h : Ev (R T s (.loop c) e H1 κ) Y) : Ev (kLp T s c m κ (.nrm, e, H)) Y := by rw [kLp_nrm, ht]; exact h
theorem k_lp_ret {c : C} {m : Heap} {e : Env} {H : Heap} {κ : Out → Option β} {Y : Option β → Prop} (h : Ev (κ (.ret, e, H)) Y) : Ev (kLp T s c m κ (.ret, e, H)) Y := h
theorem k_lp_exit {c : C} {m : Heap} {j : Nat} {e : Env} {H : Heap} {κ : Out → Option β} {Y : Option β → Prop} (h : Ev (κ (.exit j, e, H)) Y) : Ev (kLp T s c m κ (.exit j, e, H)) Y := h
theorem k_fin_nrm {cf : CF} {H H0 H1 : Heap} {e : Env} {Y : Option (V × Heap) → Prop} {vs : List V} (h : resAll e H1 cf.res = some vs) (k : Ev (finish cf.mode s H H0 vs H1) Y) : Ev (kFin cf s H H0 (.nrm, e, H1)) Y := by rw [kFin_nrm, h]; exact k
theorem k_fin_ret {cf : CF} {H H0 H1 : Heap} {e : Env} {Y : Option (V × Heap) → Prop} {vs : List V} (h : resAll e H1 cf.res = some vs) (k : Ev (finish cf.mode s H H0 vs H1) Y) : Ev (kFin cf s H H0 (.ret, e, H1)) Y := by rw [kFin_ret, h]; exact k
theorem rr_t {d : Option Nat} {g : Nat} {w : Bool} {i : I} {rs} {e : Env} {H : Heap} {κ : Env × Heap → Option β} {Y : Option β → Prop} (hg : eget e g = some (.bool w)) (h : Ev (RR T s ((d, none, i) :: rs) e H κ) Y) : Ev (RR T s ((d, some (g, w), i) :: rs) e H κ) Y :=
  RR_guard hg (fun _ => h) (fun k => by cases w <;> cases k)
theorem rr_f {d : Option Nat} {g : Nat} {w : Bool} {i : I} {rs} {e e1 : Env} {H : Heap} {κ : Env × Heap → Option β} {Y : Option β → Prop} (hg : eget e g = some (.bool !w)) (hd : delD e d = e1) (h : Ev (RR T s rs e1 H κ) Y) : Ev (RR T s ((d, some (g, w), i) :: rs) e H κ) Y :=
  RR_guard hg (fun k => by cases w <;> cases k) (fun _ => by rw [hd]; exact h)
end

theorem op1_none (T : Orc) (s : Option Nat) (d : Option Nat) (i : I) (e : Env) (H : Heap) : op1 T s (d, none, i) e H = (step T s i e H).map fun r => (putD r.2.1 d r.1, r.2.2) := rfl
theorem eget_cons (s : Nat) (v : V) (e : Env) (t : Nat) : eget ((s, v) :: e) t = if s = t then some v else eget e t := rfl
theorem edel_cons (s : Nat) (v : V) (e : Env) (t : Nat) : edel ((s, v) :: e) t = if s = t then edel e t else (s, v) :: edel e t := rfl
theorem edel_nil (t : Nat) : edel [] t = [] := rfl
theorem ekeep_cons (l : List Nat) (s : Nat) (v : V) (e : Env) : ekeep l ((s, v) :: e) = if l.contains s then eins s v (ekeep l e) else ekeep l e := rfl
theorem ekeep_nil (l : List Nat) : ekeep l [] = [] := rfl
theorem put_some (e : Env) (t : Nat) (v : V) : putD e (some t) v = (t, v) :: edel e t := rfl
theorem put_none (e : Env) (v : V) : putD e none v = e := rfl
theorem del_some (e : Env) (t : Nat) : delD e (some t) = (t, .tup []) :: edel e t := rfl
theorem del_none (e : Env) : delD e none = e := rfl

/-- Environments. -/
theorem EVE : (∀ (s : Nat) (v : V) (e : Env) (t : Nat), eget ((s, v) :: e) t = if s = t then some v else eget e t) ∧ (∀ (s : Nat) (v : V) (e : Env) (t : Nat), edel ((s, v) :: e) t = if s = t then edel e t else (s, v) :: edel e t) ∧ (∀ t, edel [] t = []) ∧
    (∀ (l : List Nat) (s : Nat) (v : V) (e : Env), ekeep l ((s, v) :: e) = if l.contains s then eins s v (ekeep l e) else ekeep l e) ∧ (∀ l, ekeep l [] = []) ∧ (∀ (e : Env) (t : Nat) (v : V), putD e (some t) v = (t, v) :: edel e t) ∧ (∀ (e : Env) (v : V), putD e none v = e) ∧
    (∀ (e : Env) (t : Nat), delD e (some t) = (t, .tup []) :: edel e t) ∧ (∀ e : Env, delD e none = e) ∧
    (∀ (s : Nat) (v : V) (e : Env), calm ((s, v) :: e) = (v.noVia && calm e)) ∧ (calm [] = true) :=
  ⟨fun _ _ _ _ => rfl, fun _ _ _ _ => rfl, fun _ => rfl, fun _ _ _ _ => rfl, fun _ => rfl, fun _ _ _ => rfl, fun _ _ => rfl, fun _ _ => rfl, fun _ => rfl, fun _ _ _ => rfl, rfl⟩
end Go.Abs
