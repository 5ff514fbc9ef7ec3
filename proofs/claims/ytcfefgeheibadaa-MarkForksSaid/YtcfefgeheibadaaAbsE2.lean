/-
  Equations by which the machine's rows are reckoned, in few bundles.
-/
import Derived.Test.YtcfefgeheibadaaAbsE1
namespace Go.Abs

section
variable {β : Type} {T : Tab} {s : Option Nat}
theorem r_seq {a b : C} {e : Env} {H : Heap} {κ : Out → Option β} {Y : Option β} (h : R T s a e H (kSeq T s b κ) = Y) : R T s (.seq a b) e H κ = Y := by rw [R_seq]; exact h
theorem r_nop {e : Env} {H : Heap} {κ : Out → Option β} {Y : Option β} (h : κ (.nrm, e, H) = Y) : R T s .nop e H κ = Y := by rw [R_nop]; exact h
theorem r_ret {e : Env} {H : Heap} {κ : Out → Option β} {Y : Option β} (h : κ (.ret, e, H) = Y) : R T s .ret e H κ = Y := by rw [R_ret]; exact h
theorem r_exit {id : Nat} {e : Env} {H : Heap} {κ : Out → Option β} {Y : Option β} (h : κ (.exit id, e, H) = Y) : R T s (.exit id) e H κ = Y := by rw [R_exit]; exact h
theorem r_blk {id : Nat} {c : C} {e : Env} {H : Heap} {κ : Out → Option β} {Y : Option β} (h : R T s c e H (kBlk id κ) = Y) : R T s (.blk id c) e H κ = Y := by rw [R_blk]; exact h
theorem r_loop {c : C} {e : Env} {H : Heap} {κ : Out → Option β} {Y : Option β} (h : R T s c e H (kLp T s c H.length κ) = Y) : R T s (.loop c) e H κ = Y := by rw [R_loop]; exact h
theorem k_seq_nrm {c : C} {e : Env} {H : Heap} {κ : Out → Option β} {Y : Option β} (h : R T s c e H κ = Y) : kSeq T s c κ (.nrm, e, H) = Y := h
theorem k_seq_ret {c : C} {e : Env} {H : Heap} {κ : Out → Option β} {Y : Option β} (h : κ (.ret, e, H) = Y) : kSeq T s c κ (.ret, e, H) = Y := h
theorem k_seq_exit {c : C} {e : Env} {H : Heap} {κ : Out → Option β} {Y : Option β} {j : Nat} (h : κ (.exit j, e, H) = Y) : kSeq T s c κ (.exit j, e, H) = Y := h
theorem k_blk_nrm {id : Nat} {e : Env} {H : Heap} {κ : Out → Option β} {Y : Option β} (h : κ (.nrm, e, H) = Y) : kBlk id κ (.nrm, e, H) = Y := h
theorem k_blk_ret {id : Nat} {e : Env} {H : Heap} {κ : Out → Option β} {Y : Option β} (h : κ (.ret, e, H) = Y) : kBlk id κ (.ret, e, H) = Y := h
theorem k_blk_hit {id : Nat} {e : Env} {H : Heap} {κ : Out → Option β} {Y : Option β} (h : κ (.nrm, e, H) = Y) : kBlk id κ (.exit id, e, H) = Y := by rw [kBlk_exit, if_pos rfl]; exact h
theorem k_blk_miss {id j : Nat} {e : Env} {H : Heap} {κ : Out → Option β} {Y : Option β} (hj : j ≠ id) (h : κ (.exit j, e, H) = Y) : kBlk id κ (.exit j, e, H) = Y := by rw [kBlk_exit, if_neg hj]; exact h
theorem k_lp_nrm {c : C} {m : Nat} {e : Env} {H H1 : Heap} {κ : Out → Option β} {Y : Option β} (ht : trim s m e H = H1) (h : R T s (.loop c) e H1 κ = Y) : kLp T s c m κ (.nrm, e, H) = Y := by rw [kLp_nrm, ht]; exact h
theorem k_lp_ret {c : C} {m : Nat} {e : Env} {H : Heap} {κ : Out → Option β} {Y : Option β} (h : κ (.ret, e, H) = Y) : kLp T s c m κ (.ret, e, H) = Y := h
theorem k_lp_exit {c : C} {m j : Nat} {e : Env} {H : Heap} {κ : Out → Option β} {Y : Option β} (h : κ (.exit j, e, H) = Y) : kLp T s c m κ (.exit j, e, H) = Y := h
theorem k_fin_nrm {cf : CF} {H H0 H1 : Heap} {e : Env} {Y : Option (V × Heap)} {vs : List V} (h : resAll e H1 cf.res = some vs) (k : finish cf.mode s H H0 vs H1 = Y) : kFin cf s H H0 (.nrm, e, H1) = Y := by rw [kFin_nrm, h]; exact k
theorem k_fin_ret {cf : CF} {H H0 H1 : Heap} {e : Env} {Y : Option (V × Heap)} {vs : List V} (h : resAll e H1 cf.res = some vs) (k : finish cf.mode s H H0 vs H1 = Y) : kFin cf s H H0 (.ret, e, H1) = Y := by rw [kFin_ret, h]; exact k
theorem rr_t {d : Option Nat} {g : Nat} {w : Bool} {i : I} {rs} {e : Env} {H : Heap} {κ : Env × Heap → Option β} {Y : Option β} (hg : eget e g = some (.bool w)) (h : RR T s ((d, none, i) :: rs) e H κ = Y) : RR T s ((d, some (g, w), i) :: rs) e H κ = Y :=
  RR_guard hg (fun _ => h) (fun k => by cases w <;> cases k)
theorem rr_f {d : Option Nat} {g : Nat} {w : Bool} {i : I} {rs} {e e1 : Env} {H : Heap} {κ : Env × Heap → Option β} {Y : Option β} (hg : eget e g = some (.bool !w)) (hd : delD e d = e1) (h : RR T s rs e1 H κ = Y) : RR T s ((d, some (g, w), i) :: rs) e H κ = Y :=
  RR_guard hg (fun k => by cases w <;> cases k) (fun _ => by rw [hd]; exact h)
end

theorem op1_none (T : Orc) (s : Option Nat) (d : Option Nat) (i : I) (e : Env) (H : Heap) : op1 T s (d, none, i) e H = (step T s i e H).map fun r => (putD r.2.1 d r.1, r.2.2) := rfl
theorem eget_cons (s : Nat) (v : V) (e : Env) (t : Nat) : eget ((s, v) :: e) t = if s = t then some v else eget e t := rfl
theorem edel_cons (s : Nat) (v : V) (e : Env) (t : Nat) : edel ((s, v) :: e) t = if s = t then edel e t else (s, v) :: edel e t := rfl
theorem edel_nil (t : Nat) : edel [] t = [] := rfl
theorem ekeep_cons (l : List Nat) (s : Nat) (v : V) (e : Env) : ekeep l ((s, v) :: e) = if l.contains s then eins s v (ekeep l e) else ekeep l e := rfl
theorem ekeep_nil (l : List Nat) : ekeep l [] = [] := rfl
theorem put_some (e : Env) (t : Nat) (v : V) : putD e (some t) v = (t, v) :: edel e t := rfl
theorem put_none (e : Env) (v : V) : putD e none v = e := rfl
theorem del_some (e : Env) (t : Nat) : delD e (some t) = (t, .tup []) :: edel e t := rfl
theorem del_none (e : Env) : delD e none = e := rfl

/-- Environments. -/
theorem EVE : (∀ (s : Nat) (v : V) (e : Env) (t : Nat), eget ((s, v) :: e) t = if s = t then some v else eget e t) ∧ (∀ (s : Nat) (v : V) (e : Env) (t : Nat), edel ((s, v) :: e) t = if s = t then edel e t else (s, v) :: edel e t) ∧ (∀ t, edel [] t = []) ∧
    (∀ (l : List Nat) (s : Nat) (v : V) (e : Env), ekeep l ((s, v) :: e) = if l.contains s then eins s v (ekeep l e) else ekeep l e) ∧ (∀ l, ekeep l [] = []) ∧ (∀ (e : Env) (t : Nat) (v : V), putD e (some t) v = (t, v) :: edel e t) ∧ (∀ (e : Env) (v : V), putD e none v = e) ∧
    (∀ (e : Env) (t : Nat), delD e (some t) = (t, .tup []) :: edel e t) ∧ (∀ e : Env, delD e none = e) ∧
    (∀ (s : Nat) (v : V) (e : Env), calm ((s, v) :: e) = (v.noVia && calm e)) ∧ (calm [] = true) :=
  ⟨fun _ _ _ _ => rfl, fun _ _ _ _ => rfl, fun _ => rfl, fun _ _ _ _ => rfl, fun _ => rfl, fun _ _ _ => rfl, fun _ _ => rfl, fun _ _ => rfl, fun _ => rfl, fun _ _ _ => rfl, rfl⟩
/-- Operands. -/
theorem EVX : (∀ (n : Nat) (e : Env), evX (.t n) e = (eget e n).map (·.dis, e)) ∧ (∀ (n : Nat) (e : Env), evX (.m n) e = (eget e n).map (·, edel e n)) ∧ (∀ (v : V) (e : Env), evX (.k v) e = some (v, e)) ∧ (∀ e : Env, evs [] e = some ([], e)) ∧
    (∀ (x : X) (xs : List X) (e : Env), evs (x :: xs) e = (evX x e).bind fun r => (evs xs r.2).map fun q => (r.1 :: q.1, q.2)) :=
  ⟨fun _ _ => rfl, fun _ _ => rfl, fun _ _ => rfl, fun _ => rfl, fun _ _ _ => rfl⟩
/-- Values without leave to append. -/
theorem EVD : (∀ b, V.dis (.bool b) = .bool b) ∧ (∀ k n, V.dis (.int k n) = .int k n) ∧ (∀ l, V.dis (.str l) = .str l) ∧ (∀ i o, V.dis (.ptr i o) = .ptr i o) ∧ (V.dis .nilp = .nilp) ∧ (∀ c i, V.dis (.fp c i) = .fp c i) ∧ (∀ i o n c, V.dis (.via i o n c) = .sl none n c) ∧ (∀ o n c, V.dis (.sl o n c) = .sl none n c) ∧
    (∀ a b c d, V.dis (.ar a b c d) = .ar a b c d) ∧ (∀ f c, V.dis (.fn f c) = .fn f c) ∧ (V.dis .nilf = .nilf) ∧ (∀ t v, V.dis (.ifc t v) = .ifc t v) ∧ (V.dis .nili = .nili) ∧ (∀ c, V.dis (.agg c) = .agg (c.map V.dis1)) ∧ (∀ c, V.dis (.tup c) = .tup (c.map V.dis2)) :=
  ⟨fun _ => rfl, fun _ _ => rfl, fun _ => rfl, fun _ _ => rfl, rfl, fun _ _ => rfl, fun _ _ _ _ => rfl, fun _ _ _ => rfl, fun _ _ _ _ => rfl, fun _ _ => rfl, rfl, fun _ _ => rfl, rfl, fun _ => rfl, fun _ => rfl⟩
theorem EVD1 : (∀ b, V.dis1 (.bool b) = .bool b) ∧ (∀ k n, V.dis1 (.int k n) = .int k n) ∧ (∀ l, V.dis1 (.str l) = .str l) ∧ (∀ i o, V.dis1 (.ptr i o) = .ptr i o) ∧ (V.dis1 .nilp = .nilp) ∧ (∀ c i, V.dis1 (.fp c i) = .fp c i) ∧ (∀ i o n c, V.dis1 (.via i o n c) = .sl none n c) ∧ (∀ o n c, V.dis1 (.sl o n c) = .sl none n c) ∧
    (∀ a b c d, V.dis1 (.ar a b c d) = .ar a b c d) ∧ (∀ f c, V.dis1 (.fn f c) = .fn f c) ∧ (V.dis1 .nilf = .nilf) ∧ (∀ t v, V.dis1 (.ifc t v) = .ifc t v) ∧ (V.dis1 .nili = .nili) :=
  ⟨fun _ => rfl, fun _ _ => rfl, fun _ => rfl, fun _ _ => rfl, rfl, fun _ _ => rfl, fun _ _ _ _ => rfl, fun _ _ _ => rfl, fun _ _ _ _ => rfl, fun _ _ => rfl, rfl, fun _ _ => rfl, rfl⟩
theorem EVD2 : (∀ b, V.dis2 (.bool b) = .bool b) ∧ (∀ k n, V.dis2 (.int k n) = .int k n) ∧ (∀ l, V.dis2 (.str l) = .str l) ∧ (∀ i o, V.dis2 (.ptr i o) = .ptr i o) ∧ (V.dis2 .nilp = .nilp) ∧ (∀ c i, V.dis2 (.fp c i) = .fp c i) ∧ (∀ i o n c, V.dis2 (.via i o n c) = .sl none n c) ∧ (∀ o n c, V.dis2 (.sl o n c) = .sl none n c) ∧
    (∀ a b c d, V.dis2 (.ar a b c d) = .ar a b c d) ∧ (∀ f c, V.dis2 (.fn f c) = .fn f c) ∧ (V.dis2 .nilf = .nilf) ∧ (∀ t v, V.dis2 (.ifc t v) = .ifc t v) ∧ (V.dis2 .nili = .nili) ∧ (∀ c, V.dis2 (.agg c) = .agg (c.map V.dis1)) :=
  ⟨fun _ => rfl, fun _ _ => rfl, fun _ => rfl, fun _ _ => rfl, rfl, fun _ _ => rfl, fun _ _ _ _ => rfl, fun _ _ _ => rfl, fun _ _ _ _ => rfl, fun _ _ => rfl, rfl, fun _ _ => rfl, rfl, fun _ => rfl⟩
/-- Of values: what they are. -/
theorem EVV : (∀ b, V.noVia (.bool b) = true) ∧ (∀ k n, V.noVia (.int k n) = true) ∧ (∀ l, V.noVia (.str l) = true) ∧ (∀ i o, V.noVia (.ptr i o) = true) ∧ (V.noVia .nilp = true) ∧ (∀ c i, V.noVia (.fp c i) = true) ∧ (∀ o n c, V.noVia (.sl o n c) = true) ∧ (∀ a b c d, V.noVia (.ar a b c d) = true) ∧
    (∀ f c, V.noVia (.fn f c) = true) ∧ (V.noVia .nilf = true) ∧ (∀ t v, V.noVia (.ifc t v) = true) ∧ (V.noVia .nili = true) ∧ (∀ c, V.noVia (.agg c) = true) ∧ (∀ c, V.noVia (.tup c) = true) ∧ (∀ a b c d, V.noVia (.via a b c d) = false) ∧
    (∀ b, V.single (.bool b) = true) ∧ (∀ k n, V.single (.int k n) = true) ∧ (∀ l, V.single (.str l) = true) ∧ (∀ i o, V.single (.ptr i o) = true) ∧ (V.single .nilp = true) ∧ (∀ c i, V.single (.fp c i) = true) ∧ (∀ o n c, V.single (.sl o n c) = true) ∧ (∀ a b c d, V.single (.ar a b c d) = true) ∧
    (∀ f c, V.single (.fn f c) = true) ∧ (V.single .nilf = true) ∧ (∀ t v, V.single (.ifc t v) = true) ∧ (V.single .nili = true) ∧ (∀ c, V.single (.agg c) = false) ∧
    (∀ c, V.cells (.agg c) = c) ∧ (∀ b, V.cells (.bool b) = [.bool b]) ∧ (∀ k n, V.cells (.int k n) = [.int k n]) ∧ (∀ l, V.cells (.str l) = [.str l]) ∧ (∀ i o, V.cells (.ptr i o) = [.ptr i o]) ∧ (V.cells .nilp = [.nilp]) ∧ (∀ o n c, V.cells (.sl o n c) = [.sl o n c]) ∧ (∀ a b c d, V.cells (.ar a b c d) = [.ar a b c d]) ∧
    (∀ f c, V.cells (.fn f c) = [.fn f c]) ∧ (V.cells .nilf = [.nilf]) ∧ (∀ t v, V.cells (.ifc t v) = [.ifc t v]) ∧ (V.cells .nili = [.nili]) :=
  ⟨fun _ => rfl, fun _ _ => rfl, fun _ => rfl, fun _ _ => rfl, rfl, fun _ _ => rfl, fun _ _ _ => rfl, fun _ _ _ _ => rfl, fun _ _ => rfl, rfl, fun _ _ => rfl, rfl, fun _ => rfl, fun _ => rfl, fun _ _ _ _ => rfl,
   fun _ => rfl, fun _ _ => rfl, fun _ => rfl, fun _ _ => rfl, rfl, fun _ _ => rfl, fun _ _ _ => rfl, fun _ _ _ _ => rfl, fun _ _ => rfl, rfl, fun _ _ => rfl, rfl, fun _ => rfl,
   fun _ => rfl, fun _ => rfl, fun _ _ => rfl, fun _ => rfl, fun _ _ => rfl, rfl, fun _ _ _ => rfl, fun _ _ _ _ => rfl, fun _ _ => rfl, rfl, fun _ _ => rfl, rfl⟩
theorem EVV2 : (∀ b, V.boxy (.bool b) = true) ∧ (∀ k n, V.boxy (.int k n) = true) ∧ (∀ l, V.boxy (.str l) = true) ∧ (∀ i o, V.boxy (.ptr i o) = true) ∧ (V.boxy .nilp = true) ∧ (∀ c i, V.boxy (.fp c i) = true) ∧ (∀ o n c, V.boxy (.sl o n c) = true) ∧ (∀ a b c d, V.boxy (.ar a b c d) = true) ∧
    (∀ f c, V.boxy (.fn f c) = true) ∧ (V.boxy .nilf = true) ∧ (∀ t v, V.boxy (.ifc t v) = true) ∧ (V.boxy .nili = true) ∧ (∀ c, V.boxy (.agg c) = true) ∧
    (∀ b m, V.rb m (.bool b) = true) ∧ (∀ k n m, V.rb m (.int k n) = true) ∧ (∀ l m, V.rb m (.str l) = true) ∧ (∀ i o m, V.rb m (.ptr i o) = decide (i < m)) ∧ (∀ m, V.rb m .nilp = true) ∧ (∀ c i m, V.rb m (.fp c i) = V.rbL m c) ∧ (∀ o n c m, V.rb m (.sl o n c) = V.rbL m c) ∧ (∀ a b c d m, V.rb m (.ar a b c d) = decide (b < m)) ∧
    (∀ f c m, V.rb m (.fn f c) = V.rbL m c) ∧ (∀ m, V.rb m .nilf = true) ∧ (∀ t v m, V.rb m (.ifc t v) = V.rb m v) ∧ (∀ m, V.rb m .nili = true) ∧ (∀ c m, V.rb m (.agg c) = V.rbL m c) ∧ (∀ c m, V.rb m (.tup c) = V.rbL m c) ∧ (∀ m, V.rbL m [] = true) ∧ (∀ m v r, V.rbL m (v :: r) = (V.rb m v && V.rbL m r)) :=
  ⟨fun _ => rfl, fun _ _ => rfl, fun _ => rfl, fun _ _ => rfl, rfl, fun _ _ => rfl, fun _ _ _ => rfl, fun _ _ _ _ => rfl, fun _ _ => rfl, rfl, fun _ _ => rfl, rfl, fun _ => rfl,
   fun _ _ => by simp only [V.rb], fun _ _ _ => by simp only [V.rb], fun _ _ => by simp only [V.rb], fun _ _ _ => by simp only [V.rb], fun _ => by simp only [V.rb], fun _ _ _ => by simp only [V.rb], fun _ _ _ _ => by simp only [V.rb], fun _ _ _ _ _ => by simp only [V.rb],
   fun _ _ _ => by simp only [V.rb], fun _ => by simp only [V.rb], fun _ _ _ => by simp only [V.rb], fun _ => by simp only [V.rb], fun _ _ => by simp only [V.rb], fun _ _ => by simp only [V.rb], fun _ => by simp only [V.rbL], fun _ _ _ => by simp only [V.rbL]⟩
/-- Rows. -/
theorem EVS : (∀ (T : Orc) (s : Option Nat) (d : Option Nat) (i : I) (e : Env) (H : Heap), op1 T s (d, none, i) e H = (step T s i e H).map fun r => (putD r.2.1 d r.1, r.2.2)) ∧
    (∀ (T : Orc) (s : Option Nat) (x : X) (e : Env) (H : Heap), step T s (.mv x) e H = (evX x e).map fun r => (r.1, r.2, H)) ∧
    (∀ (T : Orc) (s : Option Nat) (o : O) (xs : List X) (e : Env) (H : Heap), step T s (.op o xs) e H = (evs xs e).bind fun r => if !o.writes || calm r.2 then (apply s o r.1 H).map fun q => (q.1, r.2, q.2) else none) ∧
    (∀ (T : Orc) (s : Option Nat) (a b : X) (e : Env) (H : Heap) (c : X), step T s (.pick c a b) e H = (evX c e).bind fun r => match r.1 with | .bool t => (evX (if t then a else b) r.2).map fun q => (q.1, q.2, H) | _ => none) ∧
    (∀ (T : Orc) (s : Option Nat) (f : FuncId) (xs : List X) (e : Env) (H : Heap), step T s (.call f xs) e H = (evs xs e).bind fun r => if T.pu f || calm r.2 then (T.run s f r.1 H).map fun q => (q.1, r.2, q.2) else none) ∧
    (∀ (T : Orc) (s : Option Nat) (i t : Nat) (e : Env) (H : Heap), step T s (.exm i t) e H = match eget e t with | some (.tup vs) => ((vs[i]?).bind V.ntup).map fun v => (v, eput e t (.tup (vs.set i v.dis2)), H) | _ => none) :=
  ⟨fun _ _ _ _ _ _ => rfl, fun _ _ _ _ _ => rfl, fun _ _ _ _ _ _ => rfl, fun _ _ _ _ _ _ _ => rfl, fun _ _ _ _ _ _ => rfl, fun _ _ _ _ _ _ => rfl⟩
end Go.Abs
