/-
  A row of a region does what GoSem's operation does.
-/
import Derived.Test.YtcfefgeheibadaaAbsM
import Derived.Orders
namespace Go.Abs
open Go.RowKit (Below)
set_option linter.unusedVariables false
set_option linter.unusedSimpArgs false

/-- What is asked of those who carry out calls. -/
structure CallOK (P : Program) (T : Orc) : Prop where
  ok : ∀ (s : Option Nat) (f : FuncId) (args : List V) (H : Heap) (r : V) (H' : Heap), T.run s f args H = some (r, H') → okFunc P f = true ∧ r.noVia = true ∧ (T.pu f = true → H' = H) ∧
    ∀ (B : Nat) (F : List Nat) (S : Nat → Nat → Prop) (bl : List Nat) (cs : List Value) (w : World), args.length = cs.length → St s B F S bl (args.zip cs) H w → B ≤ w.heap.size →
      Calls P f cs.toArray w fun
        | .returned c, w' => ∃ S' bl', St s B F S' bl' [(r, c)] H' w' ∧ Ext s B F S bl H w S' bl' H' w' ∧ (T.pu f = true → ∀ b ∈ bl, w'.heap[b]? = w.heap[b]?)
        | _, _ => False

/-- What an operation comes to. -/
def Did (P : Program) (a : Act) (o : Oper) (w : World) (K : Value → World → Prop) : Prop :=
  (∃ c w', ((execOp a.eval o).run P w = .ok (.value c) w' ∨ ((execOp a.eval o).run P w = .ok .skip w' ∧ c = undef)) ∧ K c w') ∨
  ∃ f args, (execOp a.eval o).run P w = .ok (.enter f args) w ∧ Calls P f args w fun
    | .returned c, w' => K c w'
    | _, _ => False

section
variable {P : Program} {lim : Option Nat} {B : Nat} {F : List Nat} {nt : Nat} {S : Nat → Nat → Prop} {bl : List Nat} {us vals : List (V × Value)} {e : Env} {H : Heap} {w : World} {a : Act}

theorem Did.mono {o : Oper} {K K' : Value → World → Prop} (h : Did P a o w K) (k : ∀ c w', K c w' → K' c w') : Did P a o w K' := by
  rcases h with ⟨c, w', h1, h2⟩ | ⟨f, args, h1, h2⟩
  · exact .inl ⟨c, w', h1, k _ _ h2⟩
  · exact .inr ⟨f, args, h1, h2.mono fun e w'' he => by cases e <;> first | exact k _ _ he | exact he⟩
theorem Did.wp {o : Oper} {K : Value → World → Prop} {next : Act → World → Prop} {Q : Exit → Act → World → Prop} (h : Did P a o w K) (k : ∀ c w', K c w' → next (a.put o.dst c) w') : o.wp P a w next Q := by
  unfold Oper.wp
  rcases h with ⟨c, w', h1 | ⟨h1, rfl⟩, h2⟩ | ⟨f, args, h1, h2⟩
  · rw [h1]; exact k _ _ h2
  · rw [h1]; exact k _ _ h2
  · rw [h1]
    exact h2.mono fun e w'' he => by
      cases e with
      | returned c => exact k _ _ he
      | _ => exact he.elim

/-! ### Calls -/
theorem run_callFunc {f : FuncId} {args : Array Value} (h : okFunc P f = true) : (callFunc f args).run P w = .ok (.enter f args) w := by
  unfold okFunc at h
  split at h
  · rename_i fn hf
    simp only [Bool.and_eq_true, bne_iff_ne, ne_eq] at h
    obtain ⟨h1, h2⟩ := h
    have h3 : fn.body.isNone = false := by simpa using h1
    have h4 : (fn.name == "runtime.NumGoroutine") = false := by simpa using h2
    simp only [callFunc, Sem.run_bind, run_program, Result.andThen_ok, hf, h4, h3, Bool.false_eq_true, if_false, Sem.run_pure]
  · cases h
theorem run_method {name : String} {t : TypeId} {f : FuncId} {v : Value} {n : Nat} (h : okMeth P name t f = true) : (method (n + 1) t v name).run P w = .ok (f, v) w ∧ okFunc P f = true := by
  unfold okMeth at h
  split at h
  · rename_i i hi
    split at h
    · rename_i m hm
      simp only [Bool.and_eq_true] at h
      obtain ⟨hp, h⟩ := h
      split at h
      · rename_i g pr hg
        simp only [Bool.and_eq_true, beq_iff_eq] at h
        obtain ⟨⟨rfl, hf⟩, h⟩ := h
        refine ⟨?_, hf⟩
        have hpath : m.path.toList = [] := by simpa using hp
        cases hu : P.underlying t with
        | none => rw [hu] at h; cases h
        | some d =>
          rw [hu] at h
          simp only [method, Sem.run_bind, run_info hi, Result.andThen_ok, hm, hpath, follow, Sem.run_pure, hg, receiverAt, run_und hu]
          cases d <;> simp only at h <;> (first | subst h | (simp only [Bool.not_eq_true'] at h; subst h)) <;> simp [Place.get]
      · cases h
    · cases h
  · cases h

/-- A call, with what stands by. -/
theorem act_call {T : Orc} (hT : CallOK P T) {o : Oper} {f : FuncId} {vs : List V} {cs : List Value} {r : V} {H' : Heap} {rest : List (V × Value)} (hrun : (execOp a.eval o).run P w = .ok (.enter f cs.toArray) w)
    (hr : T.run lim f vs H = some (r, H')) (hl : vs.length = cs.length) (h : St lim B F S bl (vs.zip cs ++ rest) H w) (hB : B ≤ w.heap.size) (hc : T.pu f = true ∨ ∀ p ∈ rest, p.1.noVia = true) :
    Did P a o w fun c w' => ∃ S' bl', St lim B F S' bl' (rest ++ [(r, c)]) H' w' ∧ Ext lim B F S bl H w S' bl' H' w' := by
  have h0 : St lim B (F ++ blks (vtips rest)) S bl (vs.zip cs) H w := St.rem (h.perm List.perm_append_comm)
  obtain ⟨h1, h2, h3, h4⟩ := hT.ok _ _ _ _ _ _ hr
  refine .inr ⟨f, _, hrun, (h4 _ _ _ _ cs w hl h0 hB).mono fun e w' he => ?_⟩
  cases e with
  | returned c =>
    obtain ⟨S', bl', g, x, q⟩ := he
    obtain ⟨g', x'⟩ := h.regain g x (hc.elim (fun k => .inr (q k)) .inl)
    exact ⟨S', bl', g', x'⟩
  | _ => exact he.elim
theorem run_method' {name : String} {t : TypeId} {f : FuncId} {v : Value} (h : okMeth P name t f = true) : (method (P.types.size + Made.depth) t v name).run P w = .ok (f, v) w ∧ okFunc P f = true := by
  have hd : P.types.size + Made.depth = (P.types.size + (Made.depth - 1)) + 1 := by
    have : 0 < Made.depth := by decide
    omega
  rw [hd]
  exact run_method h

theorem St.trade {vals' : List (V × Value)} (h : St lim B F S bl vals H w) (hr : ∀ p ∈ vals', Rep S bl w p.1 p.2) (ht : ∀ t ∈ vtips vals', t ∈ vtips vals) (hc : ∀ x, (blks (vtips vals')).count x ≤ (blks (vtips vals)).count x) : St lim B F S bl vals' H w :=
  ⟨hr, h.len, h.obj, fun x => by have := h.nodup x; have := hc x; omega, fun t k => h.tip t (k.imp (ht t) id), h.stab, h.base, h.refs, h.sep⟩
/-- A value that rests in a tuple is taken out of it. -/
theorem tipsM_set : ∀ {vs : List V} {cs : List Value} {i : Nat} {v : V} {c : Value}, vs[i]? = some v → cs[i]? = some c →
    (∀ t ∈ tipsM (vs.set i v.dis2) cs, t ∈ tipsM vs cs) ∧ ∀ x, (blks (tipsM (vs.set i v.dis2) cs)).count x + (blks (tips2 v c)).count x = (blks (tipsM vs cs)).count x
  | [], _, _, _, _, h, _ => by simp at h
  | _ :: _, [], _, _, _, _, h => by simp at h
  | u :: vs, d :: cs, 0, v, c, h, k => by
    simp at h k; subst h; subst k
    simp only [List.set_cons_zero, tipsM, tips2_dis2, List.nil_append]
    exact ⟨fun t ht => List.mem_append_right _ ht, fun x => by simp only [blks, List.map_append, List.count_append]; omega⟩
  | u :: vs, d :: cs, i + 1, v, c, h, k => by
    obtain ⟨a1, a2⟩ := tipsM_set (vs := vs) (cs := cs) (i := i) (v := v) (c := c) (by simpa using h) (by simpa using k)
    simp only [List.set_cons_succ, tipsM]
    refine ⟨fun t ht => ?_, fun x => ?_⟩
    · rcases List.mem_append.1 ht with ht | ht
      · exact List.mem_append_left _ ht
      · exact List.mem_append_right _ (a1 t ht)
    · have := a2 x
      simp only [blks, List.map_append, List.count_append] at this ⊢
      omega
theorem tips_tup (vs : List V) (a : Array Value) : tips (.tup vs) (.tuple a) = tipsM vs a.toList := rfl
theorem tips_ntup {v u : V} {c : Value} (h : V.ntup v = some u) : u = v ∧ tips v c = tips2 v c ∧ v.noVia = true := by
  cases v <;> first | (cases h; exact ⟨rfl, rfl, rfl⟩) | cases h
theorem RepL.set_dis2 : ∀ {vs : List V} {cs : List Value} {i : Nat} {v : V}, RepL S bl w vs cs → vs[i]? = some v → RepL S bl w (vs.set i v.dis2) cs
  | [], _, _, _, _, h => by simp at h
  | u :: vs, cs, 0, v, h, k => by
    simp at k; subst k
    simp only [RepL] at h
    obtain ⟨c, r, rfl, h1, h2⟩ := h
    simp only [List.set_cons_zero, RepL]
    exact ⟨c, r, rfl, h1.dis2, h2⟩
  | u :: vs, cs, i + 1, v, h, k => by
    simp only [RepL] at h
    obtain ⟨c, r, rfl, h1, h2⟩ := h
    simp only [List.set_cons_succ, RepL]
    exact ⟨c, r, rfl, h1, RepL.set_dis2 h2 (by simpa using k)⟩

theorem lookup_mem {t : TypeId} {f : FuncId} : ∀ l : List (TypeId × FuncId), l.lookup t = some f → (t, f) ∈ l
  | [], h => by cases h
  | (u, g) :: l, h => by
    simp only [List.lookup] at h
    split at h
    · rename_i hu
      rw [beq_iff_eq] at hu
      cases h
      subst hu
      exact List.mem_cons_self ..
    · exact List.mem_cons_of_mem _ (lookup_mem l h)
theorem caps_tips : ∀ (c1 : List V) (d1 : List Value), (∀ v ∈ c1, v.single = true) → vtips ((c1.map V.dis1).zip d1) = []
  | [], d1, _ => rfl
  | u :: c1, [], _ => rfl
  | u :: c1, d :: d1, h => by
    simp only [List.map_cons, List.zip_cons_cons, vtips, caps_tips c1 d1 fun v hv => h v (List.mem_cons_of_mem _ hv), List.append_nil]
    rw [tips_single (.inr trivial) (.inl (V.dis1_single (h u (List.mem_cons_self ..)))), tips1_dis1]
theorem St.swapCaps {f : FuncId} {caps : List V} {ds : List Value} {c : Value} {zs rest : List (V × Value)} (h : St lim B F S bl ([(V.fn f caps, c)] ++ zs ++ rest) H w) (hr : RepL S bl w caps ds) (hs : ∀ v ∈ caps, v.single = true) :
    St lim B F S bl (zs ++ (caps.map V.dis1).zip ds ++ rest) H w := by
  refine h.trade (fun p hp => ?_) (fun t ht => ?_) (fun z => ?_)
  · simp only [List.mem_append] at hp
    rcases hp with (hp | hp) | hp
    · exact h.rep p (by simp [hp])
    · obtain ⟨j, hj⟩ := List.getElem?_of_mem hp
      rw [List.getElem?_zip_eq_some] at hj
      exact ((RepL_iff _ _).1 hr.dis1).2 j p.1 p.2 hj.1 hj.2
    · exact h.rep p (by simp [hp])
  · simp only [vtips_append, caps_tips caps ds hs, List.append_nil, List.mem_append] at ht ⊢
    exact ht.elim (fun k => .inl (.inr k)) .inr
  · simp only [vtips_append, caps_tips caps ds hs, List.append_nil, blks, List.map_append, List.count_append]
    omega

/-- A row of a region, its guard held. -/
theorem sim_step {T : Orc} (hT : CallOK P T) {o : Oper} {i : I} {e' : Env} {v : V} {H' : Heap} (hok : okI P o i = true) (hs : step T lim i e H = some (v, e', H')) (h : ER lim B F nt S bl e H a w) :
    (keys e').Nodup ∧ (∀ p ∈ e', p.1 < nt) ∧ Did P a o w fun c w' => ∃ S' bl', St lim B F S' bl' (eV a e' ++ [(v, c)]) H' w' ∧ Ext lim B F S bl H w S' bl' H' w' := by
  have hst : St lim B F S bl ([] ++ eV a e) H w := h.st
  have sub : ∀ e1 : Env, e1.Sublist e → (keys e1).Nodup ∧ ∀ p ∈ e1, p.1 < nt := fun e1 k => ⟨nodup_subl k h.nodup, fun p hp => h.bnd p (k.subset hp)⟩
  obtain ⟨dst, op, ty, pos, after, guard⟩ := o
  cases i with
  | mv x =>
    obtain ⟨⟨u, e1⟩, he, e2⟩ := Option.map_eq_some_iff.1 (show (evX x e).map (fun r => (r.1, r.2, H)) = some (v, e', H') from hs)
    cases e2
    obtain ⟨y, hop, hx⟩ : ∃ y, (op = .move y ∨ op = .assign y) ∧ okX y x = true := by
      cases op <;> simp only [okI] at hok <;> first | exact ⟨_, .inl rfl, hok⟩ | exact ⟨_, .inr rfl, hok⟩ | cases hok
    obtain ⟨g, k⟩ := evX_st hx he h.nodup hst
    refine ⟨(sub _ k).1, (sub _ k).2, .inl ⟨a.eval y, w, .inl ?_, S, bl, g.perm (List.perm_append_singleton _ _), Ext.refl _ _ _ _ _ _ _⟩⟩
    rcases hop with rfl | rfl <;> rfl
  | op b xs =>
    have hb : b ≠ .pan := fun hb => by
      subst hb
      simp only [step, Option.bind_eq_some_iff] at hs
      obtain ⟨⟨vs, e1⟩, he, hs⟩ := hs
      split at hs <;> cases hs
    have hok' : okXs op.operands.toList xs = true ∧ okO P op b = true := by
      cases b <;> first | exact absurd rfl hb | (simp only [okI, Bool.and_eq_true] at hok; exact hok)
    simp only [step, Option.bind_eq_some_iff] at hs
    obtain ⟨⟨vs, e1⟩, he, hs⟩ := hs
    split at hs
    · rename_i hc
      obtain ⟨q, hq, e2⟩ := Option.map_eq_some_iff.1 hs
      obtain ⟨r, H1⟩ := q
      cases e2
      obtain ⟨g, k, hl⟩ := evs_st hok'.1 he h.nodup hst
      simp only [List.nil_append] at g
      obtain ⟨c, w', S', bl', k1, k2, k3⟩ := act_op (dst := dst) (ty := ty) (pos := pos) (after := after) (guard := guard) a.eval hok'.2 hl g h.room hq (by
        simp only [Bool.or_eq_true, Bool.not_eq_true'] at hc
        exact hc.imp id eV_noVia)
      exact ⟨(sub _ k).1, (sub _ k).2, .inl ⟨c, w', k1, S', bl', k2, k3⟩⟩
    · cases hs
  | pick c x y =>
    simp only [step, Option.bind_eq_some_iff] at hs
    obtain ⟨⟨u, e1⟩, he, hs⟩ := hs
    cases u <;> try cases hs
    rename_i t
    obtain ⟨⟨u, e2⟩, he2, e3⟩ := Option.map_eq_some_iff.1 hs
    cases e3
    obtain ⟨oc, ox, oy, rfl, h1, h2, h3⟩ : ∃ oc ox oy, op = .pick oc ox oy ∧ okX oc c = true ∧ okX ox x = true ∧ okX oy y = true := by
      cases op <;> simp only [okI, Bool.and_eq_true] at hok <;> first | exact ⟨_, _, _, rfl, hok.1.1, hok.1.2, hok.2⟩ | cases hok
    obtain ⟨g, k⟩ := evX_st h1 he h.nodup hst
    have hb := (g.rep _ (List.mem_append_right _ (List.mem_cons_self ..))).bool_inv
    simp only at hb
    have hrun : (execOp a.eval ⟨dst, .pick oc ox oy, ty, pos, after, guard⟩).run P w = .ok (.value (if t then a.eval ox else a.eval oy)) w := by
      simp only [execOp, hb, asBool, Sem.run_bind, Sem.run_pure, Result.andThen_ok]
    have g0 : St lim B F S bl ([] ++ eV a e1) H w := g.subl (by simp)
    cases t
    · obtain ⟨g', k'⟩ := evX_st h3 (show evX y e1 = some (u, e2) from he2) (nodup_subl k h.nodup) g0
      exact ⟨(sub _ (k'.trans k)).1, (sub _ (k'.trans k)).2, .inl ⟨_, w, .inl hrun, S, bl, g'.perm (List.perm_append_singleton _ _), Ext.refl _ _ _ _ _ _ _⟩⟩
    · obtain ⟨g', k'⟩ := evX_st h2 (show evX x e1 = some (u, e2) from he2) (nodup_subl k h.nodup) g0
      exact ⟨(sub _ (k'.trans k)).1, (sub _ (k'.trans k)).2, .inl ⟨_, w, .inl hrun, S, bl, g'.perm (List.perm_append_singleton _ _), Ext.refl _ _ _ _ _ _ _⟩⟩
  | exm j t =>
    simp only [step] at hs
    split at hs
    · rename_i vs hg
      obtain ⟨u, hu, e1⟩ := Option.map_eq_some_iff.1 hs
      cases e1
      obtain ⟨u', hu', hn⟩ := Option.bind_eq_some_iff.1 hu
      obtain ⟨rfl, ht2, hnv⟩ : v = u' ∧ (∀ c, tips u' c = tips2 u' c) ∧ u'.noVia = true := ⟨(tips_ntup (c := undef) hn).1, fun c => (tips_ntup hn).2.1, (tips_ntup (c := undef) hn).2.2⟩
      obtain rfl : op = .extract (.tmp t) j := by
        cases op <;> simp only [okI] at hok <;> try cases hok
        rename_i y k
        cases y <;> simp [okI] at hok
        rw [hok.1, hok.2]
      have hm : (t, V.tup vs) ∈ e := eget_mem hg
      have hm' : (V.tup vs, a.tmps.getD t undef) ∈ eV a e := List.mem_map.2 ⟨_, hm, rfl⟩
      have hr := h.st.rep _ hm'
      simp only [Rep] at hr
      obtain ⟨arr, harr, hr1, hr2⟩ := hr
      obtain ⟨c, hc, hrc⟩ := hr1.get hu'
      have hc' : arr[j]? = some c := by simpa using hc
      have hrun : (execOp a.eval ⟨dst, .extract (.tmp t) j, ty, pos, after, guard⟩).run P w = .ok (.value c) w := by
        simp only [execOp, Act.eval, harr, Instr.extract, Sem.run_bind, hc', Sem.run_pure, Result.andThen_ok]
      have hk : (keys (eput e t (.tup (vs.set j v.dis2)))).Nodup := by
        simp only [eput, keys, List.map_cons, List.nodup_cons]
        refine ⟨fun hm => ?_, nodup_subl (edel_subl e t) h.nodup⟩
        obtain ⟨p, hp, rfl⟩ := List.mem_map.1 hm
        exact edel_keys hp rfl
      refine ⟨hk, fun p hp => ?_, .inl ⟨c, w, .inl hrun, S, bl, ?_, Ext.refl _ _ _ _ _ _ _⟩⟩
      · rcases List.mem_cons.1 hp with rfl | hp
        · exact h.bnd (t, V.tup vs) hm
        · exact edel_lt h.bnd p hp
      · have h1 : St lim B F S bl ((V.tup vs, a.tmps.getD t undef) :: eV a (edel e t)) H w := h.st.perm ((edel_perm h.nodup hg).map (fun p : Nat × V => (p.2, a.tmps.getD p.1 undef))).symm
        obtain ⟨m1, m2⟩ := tipsM_set hu' hc
        obtain ⟨n1, n2⟩ := tipsM_get hu' hc
        have e1 : eV a (eput e t (.tup (vs.set j v.dis2))) = (V.tup (vs.set j v.dis2), a.tmps.getD t undef) :: eV a (edel e t) := rfl
        rw [e1]
        refine h1.trade (fun p hp => ?_) (fun t' ht' => ?_) (fun x => ?_)
        · simp only [List.cons_append, List.mem_cons, List.mem_append, List.mem_singleton, List.not_mem_nil, or_false] at hp
          rcases hp with rfl | hp | rfl
          · simp only [harr, Rep]
            refine ⟨arr, rfl, hr1.set_dis2 hu', fun x hx => ?_⟩
            rcases List.mem_or_eq_of_mem_set hx with hx | rfl
            · exact hr2 x hx
            · exact V.dis2_noVia _
          · exact h1.rep p (List.mem_cons_of_mem _ hp)
          · exact hrc
        · simp only [List.cons_append, vtips, vtips_append, harr, List.mem_append, List.append_nil, ht2, tips_tup] at ht' ⊢
          rcases ht' with ht' | ht' | ht'
          · exact .inl (m1 t' ht')
          · exact .inr ht'
          · exact .inl (n1 t' ht')
        · have := m2 x
          simp only [List.cons_append, vtips, vtips_append, harr, List.append_nil, blks, List.map_append, List.count_append, ht2, tips_tup] at this ⊢
          omega
    · cases hs
  | call f xs nw =>
    simp only [step, Option.bind_eq_some_iff] at hs
    obtain ⟨⟨vs, e1⟩, he, hs⟩ := hs
    split at hs
    · rename_i hc
      obtain ⟨⟨r, H1⟩, hq, e2⟩ := Option.map_eq_some_iff.1 hs
      cases e2
      obtain ⟨g, args, ats, rfl, h1, h2, h3⟩ : ∃ g args ats, op = .call ⟨.value (.func g), args, ats⟩ ∧ f = g ∧ okXs args.toList xs = true ∧ okFunc P f = true := by
        cases op <;> simp only [okI] at hok <;> try cases hok
        rename_i cl
        obtain ⟨callee, args, ats⟩ := cl
        cases callee with
        | value y =>
          cases y with
          | func g =>
            simp only [okI, Bool.and_eq_true, beq_iff_eq] at hok
            exact ⟨_, _, _, rfl, hok.1.1, hok.1.2, hok.2⟩
          | _ => cases hok
        | _ => cases hok
      subst h1
      obtain ⟨g, k, hl⟩ := evs_st h2 he h.nodup hst
      simp only [List.nil_append] at g
      have hrun : (execOp a.eval ⟨dst, .call ⟨.value (.func f), args, ats⟩, ty, pos, after, guard⟩).run P w = .ok (.enter f (args.toList.map a.eval).toArray) w := by
        simp only [execOp, resolve, Sem.run_bind, Act.eval, Deferred.ofValue, Sem.run_pure, Result.andThen_ok, invoke]
        rw [show (#[] ++ args.map a.eval ++ #[] : Array Value) = (args.toList.map a.eval).toArray by first | (simp; done) | (apply Array.ext'; simp)]
        exact run_callFunc h3
      refine ⟨(sub _ k).1, (sub _ k).2, act_call hT hrun (chkN_run hq).1 (by simpa using hl) g h.room ?_⟩
      simp only [Bool.or_eq_true] at hc
      exact hc.imp id eV_noVia
    · cases hs
  | cav x xs =>
    simp only [step, Option.bind_eq_some_iff] at hs
    obtain ⟨⟨u, e0⟩, he0, hs⟩ := hs
    cases u <;> try cases hs
    rename_i f caps
    simp only [Option.bind_eq_some_iff] at hs
    obtain ⟨⟨vs, e1⟩, he, hs⟩ := hs
    split at hs
    · rename_i hc
      obtain ⟨⟨r, H1⟩, hq, e2⟩ := Option.map_eq_some_iff.1 hs
      cases e2
      obtain ⟨y, args, ats, rfl, h1, h2⟩ : ∃ y args ats, op = .call ⟨.value y, args, ats⟩ ∧ okX y x = true ∧ okXs args.toList xs = true := by
        cases op <;> simp only [okI] at hok <;> try cases hok
        rename_i cl
        obtain ⟨callee, args, ats⟩ := cl
        cases callee with
        | value y =>
          simp only [okI, Bool.and_eq_true] at hok
          exact ⟨_, _, _, rfl, hok.1, hok.2⟩
        | _ => cases hok
      obtain ⟨g0, k0⟩ := evX_st h1 he0 h.nodup hst
      have hf := g0.rep _ (List.mem_append_right _ (List.mem_cons_self ..))
      simp only [Rep] at hf
      obtain ⟨arr, harr, hr1, hr2⟩ := hf
      obtain ⟨g, k, hl⟩ := evs_st (us := [(V.fn f caps, a.eval y)]) h2 he (nodup_subl k0 h.nodup) (by simpa using g0)
      have hl2 := ((RepL_iff _ _).1 hr1).1
      have g' : St lim B F S bl ((vs ++ caps.map V.dis1).zip (args.toList.map a.eval ++ arr.toList) ++ eV a e1) H w := by
        rw [List.zip_append (by simpa using hl)]
        exact g.swapCaps hr1 hr2
      have hrun : (execOp a.eval ⟨dst, .call ⟨.value y, args, ats⟩, ty, pos, after, guard⟩).run P w = .ok (.enter f (args.toList.map a.eval ++ arr.toList).toArray) w := by
        simp only [execOp, resolve, Sem.run_bind, harr, Deferred.ofValue, Sem.run_pure, Result.andThen_ok, invoke]
        rw [show (#[] ++ args.map a.eval ++ arr : Array Value) = (args.toList.map a.eval ++ arr.toList).toArray by simp]
        exact run_callFunc (hT.ok _ _ _ _ _ _ hq).1
      have kk := k.trans k0
      refine ⟨(sub _ kk).1, (sub _ kk).2, act_call hT hrun hq (by simp [hl, hl2]) g' h.room ?_⟩
      simp only [Bool.or_eq_true] at hc
      exact hc.imp id eV_noVia
    · cases hs
  | cam tbl x xs =>
    simp only [step, Option.bind_eq_some_iff] at hs
    obtain ⟨⟨u, e0⟩, he0, hs⟩ := hs
    cases u <;> try cases hs
    rename_i t u
    simp only at hs
    split at hs
    · rename_i f hlk
      simp only [Option.bind_eq_some_iff] at hs
      obtain ⟨⟨vs, e1⟩, he, hs⟩ := hs
      split at hs
      · rename_i hc
        obtain ⟨⟨r, H1⟩, hq, e2⟩ := Option.map_eq_some_iff.1 hs
        cases e2
        obtain ⟨y, name, args, ats, rfl, ⟨h1, h2⟩, h3⟩ : ∃ y name args ats, op = .call ⟨.invoke y name, args, ats⟩ ∧ (okX y x = true ∧ okXs args.toList xs = true) ∧ ∀ p ∈ tbl, okMeth P name p.1 p.2 = true := by
          cases op <;> simp only [okI] at hok <;> try cases hok
          rename_i cl
          obtain ⟨callee, args, ats⟩ := cl
          cases callee with
          | invoke y name =>
            simp only [okI, Bool.and_eq_true, List.all_eq_true] at hok
            exact ⟨_, _, _, _, rfl, hok.1, hok.2⟩
          | _ => cases hok
        obtain ⟨g0, k0⟩ := evX_st h1 he0 h.nodup hst
        have hf := g0.rep _ (List.mem_append_right _ (List.mem_cons_self ..))
        simp only [Rep] at hf
        obtain ⟨c, harr, hr1⟩ := hf
        have hm : okMeth P name t f = true := by
          exact h3 _ (lookup_mem tbl hlk)
        obtain ⟨g, k, hl⟩ := evs_st (us := [(V.ifc t u, a.eval y)]) h2 he (nodup_subl k0 h.nodup) (by simpa using g0)
        have g' : St lim B F S bl ((u.dis :: vs).zip (c :: args.toList.map a.eval) ++ eV a e1) H w := by
          have g1 : St lim B F S bl (vs.zip (args.toList.map a.eval) ++ eV a e1) H w := g.subl (by simp)
          have g2 : Rep S bl w u.dis c := by
            have := g.rep (V.ifc t u, a.eval y) (by simp)
            simp only [Rep] at this
            obtain ⟨c', hc', hr'⟩ := this
            rw [harr] at hc'
            cases hc'
            exact hr'.1.dis
          exact g1.add0 g2 (tips_dis _ _)
        have hrun : (execOp a.eval ⟨dst, .call ⟨.invoke y name, args, ats⟩, ty, pos, after, guard⟩).run P w = .ok (.enter f (c :: args.toList.map a.eval).toArray) w := by
          have e1 : (#[a.eval y] ++ args.map a.eval : Array Value)[0]? = some (.iface t c) := by
            rw [Array.getElem?_append_left (by simp)]; simp [harr]
          have e2 : (#[a.eval y] ++ args.map a.eval : Array Value).extract 1 (#[a.eval y] ++ args.map a.eval : Array Value).size = args.map a.eval := by
            apply Array.ext'; simp [List.take_of_length_le]
          have e3 : (#[c] ++ args.map a.eval : Array Value) = (c :: args.toList.map a.eval).toArray := by first | (simp; done) | (apply Array.ext'; simp)
          simp only [execOp, resolve, Sem.run_bind, Sem.run_pure, Result.andThen_ok, invoke, e1, e2, callMethod, run_program, (run_method' (w := w) (v := c) hm).1, e3]
          exact run_callFunc (hT.ok _ _ _ _ _ _ hq).1
        have kk := k.trans k0
        refine ⟨(sub _ kk).1, (sub _ kk).2, act_call hT hrun hq (by simp [hl]) g' h.room ?_⟩
        simp only [Bool.or_eq_true] at hc
        exact hc.imp id eV_noVia
      · cases hs
    · cases hs
end
end Go.Abs
