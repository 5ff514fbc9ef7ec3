/-
  Running the machine's code step by step: continuations, one row at a time, calls.
-/
import Derived.Test.YtcfefgeheibadaaAbsE
namespace Go.Abs

/-- What something comes to is so. -/
structure Ev {β : Type} (x : Option β) (Y : Option β → Prop) : Prop where
  so : Y x
/-- It comes to this. -/
def Is {β : Type} (r : Option β) : Option β → Prop := fun x => x = r
theorem Ev.of {β : Type} {x z : Option β} {Y : Option β → Prop} (e : x = z) (h : Ev z Y) : Ev x Y := by rw [e]; exact h
theorem ev_is {β : Type} {x r : Option β} (h : Ev x (Is r)) : x = r := h.so
theorem is_ev {β : Type} {x r : Option β} (h : x = r) : Ev x (Is r) := ⟨h⟩

section
variable {β : Type} {T : Tab} {s : Option Nat}

/-- The code, and what comes behind it. -/
noncomputable def R (T : Tab) (s : Option Nat) (c : C) (e : Env) (H : Heap) (κ : Out → Option β) : Option β := (EX T s c e H).bind κ
noncomputable def kSeq (T : Tab) (s : Option Nat) (c : C) (κ : Out → Option β) : Out → Option β := fun r => match r.1 with
  | .nrm => R T s c r.2.1 r.2.2 κ
  | x => κ (x, r.2.1, r.2.2)
def kBlk (id : Nat) (κ : Out → Option β) : Out → Option β := fun r => match r.1 with
  | .exit j => if j = id then κ (.nrm, r.2.1, r.2.2) else κ (.exit j, r.2.1, r.2.2)
  | x => κ (x, r.2.1, r.2.2)
noncomputable def kLp (T : Tab) (s : Option Nat) (c : C) (m : Heap) (κ : Out → Option β) : Out → Option β := fun r => match r.1 with
  | .nrm => R T s (.loop c) r.2.1 (trim s m r.2.1 r.2.2) κ
  | x => κ (x, r.2.1, r.2.2)
/-- Rows, and what comes behind them. -/
noncomputable def RR (T : Tab) (s : Option Nat) (rs : List (Option Nat × Option (Nat × Bool) × I)) (e : Env) (H : Heap) (κ : Env × Heap → Option β) : Option β := (rops (orc T) s rs e H).bind κ
def kReg (keep : List Nat) (conf : List (Nat × Nat × Nat × Nat)) (free fps : List Nat) (κ : Out → Option β) : Env × Heap → Option β := fun r =>
  if confOK conf r.1 && freeOK free r.1 && fpsOK fps r.1 then κ (.nrm, ekeep keep r.1, r.2) else none
def kFin (cf : CF) (s : Option Nat) (H H0 : Heap) : Out → Option (V × Heap) := fun r => match r.1 with
  | .exit _ => none
  | _ => (resAll r.2.1 r.2.2 cf.res).bind fun vs => finish cf.mode s H H0 vs r.2.2

theorem R_seq (a b : C) (e : Env) (H : Heap) (κ : Out → Option β) : R T s (.seq a b) e H κ = R T s a e H (kSeq T s b κ) := by
  unfold R; rw [EX_seq, Option.bind_assoc]
  congr 1; funext r
  obtain ⟨x, e1, H1⟩ := r
  cases x <;> rfl
theorem R_nop (e : Env) (H : Heap) (κ : Out → Option β) : R T s .nop e H κ = κ (.nrm, e, H) := by unfold R; rw [EX_nop]; rfl
theorem R_ret (e : Env) (H : Heap) (κ : Out → Option β) : R T s .ret e H κ = κ (.ret, e, H) := by unfold R; rw [EX_ret]; rfl
theorem R_exit (id : Nat) (e : Env) (H : Heap) (κ : Out → Option β) : R T s (.exit id) e H κ = κ (.exit id, e, H) := by unfold R; rw [EX_exit]; rfl
theorem R_blk (id : Nat) (c : C) (e : Env) (H : Heap) (κ : Out → Option β) : R T s (.blk id c) e H κ = R T s c e H (kBlk id κ) := by
  unfold R; rw [EX_blk, Option.bind_map]
  congr 1; funext r
  obtain ⟨x, e1, H1⟩ := r
  cases x with
  | exit j => simp only [Function.comp, kBlk]; split <;> rfl
  | _ => rfl
theorem R_loop (c : C) (e : Env) (H : Heap) (κ : Out → Option β) : R T s (.loop c) e H κ = R T s c e H (kLp T s c H κ) := by
  unfold R; rw [EX_loop, Option.bind_assoc]
  congr 1; funext r
  obtain ⟨x, e1, H1⟩ := r
  cases x <;> rfl
theorem R_cnd {x : X} {a b : C} {e e1 : Env} {H : Heap} {κ : Out → Option β} {t : Bool} {Y : Option β → Prop} (h : evX x e = some (.bool t, e1)) (h1 : t = true → Ev (R T s a e1 H κ) Y) (h2 : t = false → Ev (R T s b e1 H κ) Y) : Ev (R T s (.cnd x a b) e H κ) Y := by
  unfold R at *; rw [EX_cnd, h]
  cases t
  · exact h2 rfl
  · exact h1 rfl
theorem R_cnd_t {x : X} {a b : C} {e e1 : Env} {H : Heap} {κ : Out → Option β} {Y : Option β → Prop} (h : evX x e = some (.bool true, e1)) (h1 : Ev (R T s a e1 H κ) Y) : Ev (R T s (.cnd x a b) e H κ) Y := R_cnd h (fun _ => h1) (fun k => by cases k)
theorem R_cnd_f {x : X} {a b : C} {e e1 : Env} {H : Heap} {κ : Out → Option β} {Y : Option β → Prop} (h : evX x e = some (.bool false, e1)) (h1 : Ev (R T s b e1 H κ) Y) : Ev (R T s (.cnd x a b) e H κ) Y := R_cnd h (fun k => by cases k) (fun _ => h1)
theorem R_reg {keep : List Nat} {conf : List (Nat × Nat × Nat × Nat)} {free fps : List Nat} {ops} {e : Env} {H : Heap} {κ : Out → Option β} {Y : Option β → Prop} (hc : calm e = true) (h : Ev (RR T s ops e H (kReg keep conf free fps κ)) Y) : Ev (R T s (.reg keep conf free fps ops) e H κ) Y := by
  unfold R; rw [EX_reg, hc]
  simp only [Bool.not_true, Bool.false_eq_true, if_false]
  rw [Option.bind_assoc]
  refine Ev.of ?_ h
  unfold RR
  congr 1; funext r
  simp only [kReg]
  split <;> rfl
theorem RR_nil (e : Env) (H : Heap) (κ : Env × Heap → Option β) : RR T s [] e H κ = κ (e, H) := rfl
theorem RR_row {r} {rs} {e e1 : Env} {H H1 : Heap} {κ : Env × Heap → Option β} {Y : Option β → Prop} (h : op1 (orc T) s r e H = some (e1, H1)) (k : Ev (RR T s rs e1 H1 κ) Y) : Ev (RR T s (r :: rs) e H κ) Y := by
  unfold RR at *
  show Ev (((op1 (orc T) s r e H).bind fun q => rops (orc T) s rs q.1 q.2).bind κ) Y
  rw [h]; exact k
/-- A row under a test whose outcome is not known. -/
theorem RR_guard {d : Option Nat} {g : Nat} {w : Bool} {i : I} {rs} {e : Env} {H : Heap} {κ : Env × Heap → Option β} {Y : Option β → Prop} {c : Bool} (hg : eget e g = some (.bool c)) (h1 : c = w → Ev (RR T s ((d, none, i) :: rs) e H κ) Y) (h2 : c = !w → Ev (RR T s rs (delD e d) H κ) Y) :
    Ev (RR T s ((d, some (g, w), i) :: rs) e H κ) Y := by
  by_cases hc : c = w
  · refine Ev.of ?_ (h1 hc)
    unfold RR rops
    congr 1
    simp only [op1, hg, if_pos hc]
  · have : c = !w := by cases c <;> cases w <;> first | rfl | exact absurd rfl hc
    refine Ev.of ?_ (h2 this)
    unfold RR
    show ((op1 (orc T) s (d, some (g, w), i) e H).bind fun q => rops (orc T) s rs q.1 q.2).bind κ = _
    simp only [op1, hg, if_neg hc, Option.bind_some]

theorem kSeq_nrm (c : C) (κ : Out → Option β) (e : Env) (H : Heap) : kSeq T s c κ (.nrm, e, H) = R T s c e H κ := rfl
theorem kSeq_ret (c : C) (κ : Out → Option β) (e : Env) (H : Heap) : kSeq T s c κ (.ret, e, H) = κ (.ret, e, H) := rfl
theorem kSeq_exit (c : C) (κ : Out → Option β) (e : Env) (H : Heap) (j : Nat) : kSeq T s c κ (.exit j, e, H) = κ (.exit j, e, H) := rfl
theorem kBlk_nrm (id : Nat) (κ : Out → Option β) (e : Env) (H : Heap) : kBlk id κ (.nrm, e, H) = κ (.nrm, e, H) := rfl
theorem kBlk_ret (id : Nat) (κ : Out → Option β) (e : Env) (H : Heap) : kBlk id κ (.ret, e, H) = κ (.ret, e, H) := rfl
theorem kBlk_exit (id : Nat) (κ : Out → Option β) (e : Env) (H : Heap) (j : Nat) : kBlk id κ (.exit j, e, H) = if j = id then κ (.nrm, e, H) else κ (.exit j, e, H) := rfl
theorem kLp_nrm (c : C) (m : Heap) (κ : Out → Option β) (e : Env) (H : Heap) : kLp T s c m κ (.nrm, e, H) = R T s (.loop c) e (trim s m e H) κ := rfl
theorem kLp_ret (c : C) (m : Heap) (κ : Out → Option β) (e : Env) (H : Heap) : kLp T s c m κ (.ret, e, H) = κ (.ret, e, H) := rfl
theorem kLp_exit (c : C) (m : Heap) (κ : Out → Option β) (e : Env) (H : Heap) (j : Nat) : kLp T s c m κ (.exit j, e, H) = κ (.exit j, e, H) := rfl
theorem kReg_ok {keep : List Nat} {conf : List (Nat × Nat × Nat × Nat)} {free fps : List Nat} {κ : Out → Option β} {e e1 : Env} {H : Heap} {Y : Option β → Prop} (h : (confOK conf e && freeOK free e && fpsOK fps e) = true) (h1 : ekeep keep e = e1) (k : Ev (κ (.nrm, e1, H)) Y) :
    Ev (RR T s [] e H (kReg keep conf free fps κ)) Y := by
  rw [RR_nil]; unfold kReg; rw [if_pos h, h1]; exact k
theorem kFin_nrm (cf : CF) (H H0 : Heap) (e : Env) (H1 : Heap) : kFin cf s H H0 (.nrm, e, H1) = (resAll e H1 cf.res).bind fun vs => finish cf.mode s H H0 vs H1 := rfl
theorem kFin_ret (cf : CF) (H H0 : Heap) (e : Env) (H1 : Heap) : kFin cf s H H0 (.ret, e, H1) = (resAll e H1 cf.res).bind fun vs => finish cf.mode s H H0 vs H1 := rfl

theorem Call_R {f : FuncId} {args : List V} {H : Heap} {cf : CF} (hp : T.prim f = none) (hc : T.code f = some cf) (ha : args.length = cf.np) :
    Call T s f args H = R T (inner cf.mode s (base cf.mode args H)) cf.body (initEnv 0 args) (base cf.mode args H) (kFin cf s H (base cf.mode args H)) := by
  rw [Call_code hp hc ha]
  unfold R
  congr 1
theorem Call_P {f : FuncId} {args : List V} {H H0 : Heap} {cf : CF} {Y : Option (V × Heap) → Prop} (hp : T.prim f = none) (hc : T.code f = some cf) (ha : args.length = cf.np) (hm : cf.mode = .P) (hb : V.rbL 0 args = true)
    (h : Ev (R T (some 0) cf.body (initEnv 0 args) [] (kFin cf s H [])) Y) : Ev (Call T s f args H) Y := by
  rw [Call_R hp hc ha, hm]
  have e1 : base .P args H = [] := by simp [base, hb]
  rw [e1]; exact h
theorem Call_Q {f : FuncId} {args : List V} {H : Heap} {cf : CF} {Y : Option (V × Heap) → Prop} (hp : T.prim f = none) (hc : T.code f = some cf) (ha : args.length = cf.np) (hm : cf.mode = .P) (hb : V.rbL 0 args = false)
    (h : Ev (R T (some H.length) cf.body (initEnv 0 args) H (kFin cf s H H)) Y) : Ev (Call T s f args H) Y := by
  rw [Call_R hp hc ha, hm]
  have e1 : base .P args H = H := by simp [base, hb]
  rw [e1]; exact h
theorem Call_T {f : FuncId} {args : List V} {H : Heap} {cf : CF} {Y : Option (V × Heap) → Prop} (hp : T.prim f = none) (hc : T.code f = some cf) (ha : args.length = cf.np) (hm : cf.mode ≠ .P)
    (h : Ev (R T s cf.body (initEnv 0 args) H (kFin cf s H H)) Y) : Ev (Call T s f args H) Y := by
  rw [Call_R hp hc ha]
  have e1 : base cf.mode args H = H := by cases hk : cf.mode <;> first | rfl | exact absurd hk hm
  have e2 : inner cf.mode s H = s := by cases hk : cf.mode <;> first | rfl | exact absurd hk hm
  rw [e1, e2]; exact h
end
end Go.Abs
