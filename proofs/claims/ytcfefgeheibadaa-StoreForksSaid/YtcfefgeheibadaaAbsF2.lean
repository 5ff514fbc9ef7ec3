/-
  Calls: whatever the machine tells of a call, GoSem's call does.
-/
import Derived.Test.YtcfefgeheibadaaAbsF1
namespace Go.Abs
open Go.RowKit (Below)

section
variable {P : Program} {lim : Option Nat} {B : Nat} {F : List Nat} {nt : Nat} {S : Nat → Nat → Prop} {bl : List Nat} {vals : List (V × Value)} {H : Heap} {w : World}

theorem frz_rep (h : St lim B F S bl vals H w) {m : Nat} {v : V} {c : Value} (hv : v.noVia = true) (hr : Rep S bl w v c) (hb : (frz H m v).rb m = true) : Rep (More S bl m w) (bl.take m) w (frz H m v) c := by
  have plain : ∀ u : V, u.noVia = true → u.rb m = true → Rep S bl w u c → Rep (More S bl m w) (bl.take m) w u c := fun u h1 h2 h3 =>
    Rep.cut u c h2 (Rep.mono (More.keeps S bl m w) (fun _ _ e => e) u c h1 h3)
  cases v with
  | ar sz id off n k => exact frz1_rep h hv hr hb
  | nls => exact frz1_rep h hv hr hb
  | agg cs =>
    simp only [frz, V.rb, Rep] at hb hr ⊢
    obtain ⟨a, rfl, h1, h2⟩ := hr
    obtain ⟨l1, l2⟩ := (RepL_iff _ _).1 h1
    refine ⟨a, rfl, (RepL_iff _ _).2 ⟨by simpa using l1, fun j u d hu hd => ?_⟩, fun u hu => ?_⟩
    · rw [List.getElem?_map] at hu
      obtain ⟨x, hx, rfl⟩ := Option.map_eq_some_iff.1 hu
      have hxm := List.mem_of_getElem? hx
      exact frz1_rep h (V.noVia_of_single (h2 x hxm)) (l2 j x d hx hd) (V.rbL_iff.1 hb _ (List.mem_map.2 ⟨x, hxm, rfl⟩))
    · obtain ⟨x, hx, rfl⟩ := List.mem_map.1 hu
      exact frz1_single H m (h2 x hx)
  | _ => exact plain _ hv hb hr

theorem vtips_frz (H : Heap) (m : Nat) : ∀ (vs : List V) (cs : List Value), vtips ((vs.map (frz H m)).zip cs) = vtips (vs.zip cs)
  | [], _ => rfl
  | _ :: _, [] => rfl
  | v :: vs, c :: cs => by simp only [List.map_cons, List.zip_cons_cons, vtips, frz_tips, vtips_frz H m vs cs]

/-- Objects that go; slices over them are by value from now on. -/
theorem St.cutFrz {vs : List V} {cs : List Value} (h : St lim B F S bl (vs.zip cs) H w) {m : Nat} (hv : ∀ v ∈ vs, v.noVia = true) (hl : lim = some m) (hm : m ≤ H.length) (hb : V.rbL m (vs.map (frz H m)) = true) :
    St lim B F (More S bl m w) (bl.take m) ((vs.map (frz H m)).zip cs) (H.take m) w := by
  have h0 : St lim B F S (bl.take m) [] (H.take m) w := (h.nil).cut (fun p hp => by cases hp) ⟨m, hl, Nat.le_refl _, fun i cs q1 q2 _ => by omega⟩ hm
  have e1 := vtips_frz H m vs cs
  have hsub := htips_take w m H bl h.len
  refine ⟨fun p hp => ?_, h0.len, fun i os b hi hb => (h0.obj i os b hi hb).mono (More.keeps S bl m w) ?_ rfl, fun x => ?_, fun t ht => ?_, fun b o hbo => ?_, h0.base, h0.refs, h0.sep⟩
  · obtain ⟨j, hj⟩ := List.getElem?_of_mem hp
    rw [List.getElem?_zip_eq_some, List.getElem?_map] at hj
    obtain ⟨j1, j2⟩ := hj
    obtain ⟨u, hu, j3⟩ := Option.map_eq_some_iff.1 j1
    have hum := List.mem_of_getElem? hu
    have hz : (u, p.2) ∈ vs.zip cs := List.mem_of_getElem? (i := j) (by rw [List.getElem?_zip_eq_some]; exact ⟨hu, j2⟩)
    rw [← j3]
    exact frz_rep h (hv u hum) (h.rep _ hz) (V.rbL_iff.1 hb _ (List.mem_map.2 ⟨u, hum, rfl⟩))
  · exact fun _ _ e => e
  · rw [e1]
    have := h.nodup x
    rw [hsub] at this
    have a := ind_take (l := bl) (m := m) (x := x)
    simp only [blks, List.map_append, List.count_append] at this ⊢
    omega
  · rw [e1] at ht
    have ht' : t ∈ vtips (vs.zip cs) ∨ t ∈ htips w H bl := ht.imp id fun y => by rw [hsub]; exact List.mem_append_left _ y
    obtain ⟨k1, k2⟩ := h.tip t ht'
    refine ⟨⟨k1.ex, fun o ho hx => ?_, k1.le⟩, k2⟩
    rcases hx with hx | ⟨⟨id, _, hid⟩, _⟩
    · exact k1.free o ho hx
    · have c1 := h.nodup t.blk
      have c2 := ind_mem (List.mem_of_getElem? hid)
      have c3 : 1 ≤ (blks (vtips (vs.zip cs))).count t.blk + (blks (htips w H bl)).count t.blk := by
        rcases ht' with y | y
        · have := St.mem_count (List.mem_map.2 ⟨t, y, rfl⟩ : t.blk ∈ blks (vtips (vs.zip cs))); simp only [blks] at this ⊢; omega
        · have := St.mem_count (List.mem_map.2 ⟨t, y, rfl⟩ : t.blk ∈ blks (htips w H bl)); simp only [blks] at this ⊢; omega
      omega
  · rcases hbo with hx | ⟨⟨id, hid, hb⟩, hc⟩
    · exact ⟨fun y => (h.stab b o hx).1 (List.mem_of_mem_take y), (h.stab b o hx).2⟩
    · refine ⟨fun y => ?_, hc⟩
      obtain ⟨k, hk⟩ := List.getElem?_of_mem y
      rw [List.getElem?_take] at hk
      split at hk
      · rename_i hkm
        exact (h.refs m hl).2.2 k id b hkm hid hk hb
      · cases hk
theorem Ext.cut {S' : Nat → Nat → Prop} {bl' : List Nat} {vals' : List (V × Value)} {H' : Heap} {w' : World} (hlen : H.length = bl.length) (g : St lim B F S' bl' vals' H' w') (x : Ext lim B F S bl H w S' bl' H' w') (hl : ∃ l, lim = some l ∧ l ≤ H.length) :
    Ext lim B F S bl H w (More S' bl' H.length w') (bl'.take H.length) (H'.take H.length) w' := by
  obtain ⟨l, rfl, hle⟩ := hl
  refine ⟨x.keeps.trans (More.keeps S' bl' H.length w'), fun b hb => ⟨(x.frame b hb).1, fun o hx => ?_⟩, x.below, fun i b hb => ?_, ?_, fun l' hl' => ⟨(x.objs l' hl').1, ?_⟩⟩
  · rcases hx with hx | ⟨⟨id, _, hid⟩, _⟩
    · exact (x.frame b hb).2 o hx
    · have c1 := g.nodup b
      have c2 := ind_mem (List.mem_of_getElem? hid)
      have c3 := St.mem_count hb
      omega
  · have := (List.getElem?_eq_some_iff.1 hb).1
    rw [List.getElem?_take, if_pos (by omega)]
    exact x.bls i b hb
  · have := x.len
    rw [List.length_take]; omega
  · cases hl'
    rw [List.take_take, Nat.min_eq_left hle]
    exact (x.objs l rfl).2

theorem Ext.cut0 {S' : Nat → Nat → Prop} {bl' : List Nat} {H' : Heap} {w' : World} (hlen : H.length = bl.length) (x : Ext lim B F S bl H w S' bl' H' w') (hl : ∃ l, lim = some l ∧ l ≤ H.length) :
    Ext lim B F S bl H w S' (bl'.take H.length) (H'.take H.length) w' := by
  obtain ⟨l, rfl, hle⟩ := hl
  refine ⟨x.keeps, x.frame, x.below, fun i b hb => ?_, ?_, fun l' hl' => ⟨(x.objs l' hl').1, ?_⟩⟩
  · have := (List.getElem?_eq_some_iff.1 hb).1
    rw [List.getElem?_take, if_pos (by omega)]
    exact x.bls i b hb
  · have := x.len
    rw [List.length_take]; omega
  · cases hl'
    rw [List.take_take, Nat.min_eq_left hle]
    exact (x.objs l rfl).2

/-! ### Objects that are hidden -/
theorem St.hide (h : St lim B F S bl vals H w) (hv : ∀ p ∈ vals, p.1.rb 0 = true) : St (some 0) B (F ++ (dd bl ++ blks (htips w H bl))) S [] vals [] w := by
  refine ⟨fun p hp => by have := Rep.cut (m := 0) p.1 p.2 (hv p hp) (h.rep p hp); simpa using this, rfl, fun i cs b hi => by simp at hi, fun x => ?_, fun t ht => ?_, fun b o hx => ⟨by simp, (h.stab b o hx).2⟩, fun b hb => ?_, fun l hl => ?_, fun i j b cs ds _ hb => by simp at hb⟩
  · have := h.nodup x
    have e0 : ind [] x = 0 := rfl
    simp only [List.count_append, count_dd, htips, blks, List.map_nil, List.count_nil, e0] at this ⊢
    omega
  · rcases ht with ht | ht
    · exact h.tip t (.inl ht)
    · simp [htips] at ht
  · rcases hb with hb | hb
    · simp only [List.mem_append] at hb
      rcases hb with hb | hb | hb
      · exact h.base b (.inl hb)
      · exact h.base b (.inr (mem_dd.1 hb))
      · exact h.held_lt (.inr (.inr hb))
    · cases hb
  · cases hl
    exact ⟨Nat.le_refl _, fun i cs hi => by omega, fun i j b hi => by omega⟩
theorem St.unhide {vals' : List (V × Value)} {S' : Nat → Nat → Prop} {w' : World} (h : St lim B F S bl vals H w) (g : St (some 0) B (F ++ (dd bl ++ blks (htips w H bl))) S' [] vals' [] w') (hv : ∀ p ∈ vals', p.1.noVia = true)
    (x : Ext (some 0) B (F ++ (dd bl ++ blks (htips w H bl))) S [] [] w S' [] [] w') :
    St lim B F S' bl vals' H w' ∧ Ext lim B F S bl H w S' bl H w' ∧ ∀ b ∈ bl, w'.heap[b]? = w.heap[b]? := by
  have inb : ∀ b ∈ bl, b ∈ F ++ (dd bl ++ blks (htips w H bl)) := fun b hb => List.mem_append_right _ (List.mem_append_left _ (mem_dd.2 hb))
  have same : ∀ b ∈ bl, w'.heap[b]? = w.heap[b]? := fun b hb => (x.frame b (inb b hb)).1
  have eh := htips_same H bl same
  refine ⟨⟨fun p hp => Rep.mono (Keeps.refl S' w') (fun i b e => by simp at e) p.1 p.2 (hv p hp) (g.rep p hp), h.len, fun i cs b hi hb => (h.obj i cs b hi hb).mono x.keeps (fun _ _ e => e) (same b (List.mem_of_getElem? hb)), fun y => ?_, fun t ht => ?_, fun b o hx => ⟨fun hb => ?_, (g.stab b o hx).2⟩,
    fun b hb => ⟨(h.base b hb).1, Nat.lt_of_lt_of_le (h.base b hb).2 x.below.size⟩, h.refs, h.sep⟩, ⟨x.keeps, fun b hb => x.frame b (List.mem_append_left _ hb), x.below, fun _ _ e => e, Nat.le_refl _, fun l hl => ⟨fun i b _ hb => same b (List.mem_of_getElem? hb), rfl⟩⟩, same⟩
  · have := g.nodup y
    rw [eh]
    have e0 : ind [] y = 0 := rfl
    simp only [List.count_append, count_dd, htips, blks, List.map_nil, List.count_nil, e0] at this ⊢
    omega
  · rw [eh] at ht
    rcases ht with ht | ht
    · exact g.tip t (.inl ht)
    · have hb : t.blk ∈ F ++ (dd bl ++ blks (htips w H bl)) := List.mem_append_right _ (List.mem_append_right _ (List.mem_map.2 ⟨t, ht, rfl⟩))
      exact ⟨(h.tip t (.inr ht)).1.mono (x.frame _ hb).1 (x.frame _ hb).2, (h.tip t (.inr ht)).2⟩
  · exact (h.stab b o ((x.frame b (inb b hb)).2 o hx)).1 hb

/-! ### Several results -/
def tieC (cs : List Value) : Value := match cs with | [c] => c | cs => .tuple cs.toArray
theorem tips2_subl (v : V) (c : Value) : (tips2 v c).Sublist (tips v c) := by
  cases v with
  | tup vs =>
    have : tips2 (.tup vs) c = [] := by cases c <;> rfl
    rw [this]
    exact List.nil_sublist _
  | _ => exact .refl _
theorem tipsM_subl : ∀ (vs : List V) (cs : List Value), (tipsM vs cs).Sublist (vtips (vs.zip cs))
  | [], _ => List.nil_sublist _
  | _ :: _, [] => List.nil_sublist _
  | v :: vs, c :: cs => by
    simp only [tipsM, List.zip_cons_cons, vtips]
    exact (tips2_subl v c).append (tipsM_subl vs cs)
theorem St.tie {vs : List V} {cs : List Value} (h : St lim B F S bl (vs.zip cs) H w) (hl : vs.length = cs.length) (hv : ∀ v ∈ vs, v.noVia = true) : St lim B F S bl [(Abs.tie vs, tieC cs)] H w := by
  have gen : St lim B F S bl [(.tup vs, .tuple cs.toArray)] H w := by
    have e1 : vtips [(V.tup vs, Value.tuple cs.toArray)] = tipsM vs cs := by simp [vtips, tips]
    have s1 := tipsM_subl vs cs
    refine h.trade (fun p hp => ?_) (fun t ht => s1.subset (by rw [← e1]; exact ht)) fun x => by rw [e1]; exact (s1.map Tp.blk).count_le x
    simp at hp; subst hp
    simp only [Rep]
    refine ⟨_, rfl, (RepL_iff _ _).2 ⟨by simpa using hl, fun j v c h1 h2 => ?_⟩, hv⟩
    exact h.rep (v, c) (List.mem_of_getElem? (i := j) (by rw [List.getElem?_zip_eq_some]; exact ⟨h1, h2⟩))
  match vs, cs, hl with
  | [], [], _ => exact gen
  | [v], [c], _ => exact h
  | _ :: _ :: _, _ :: _ :: _, _ => exact gen
theorem tie_noVia {vs : List V} (h : ∀ v ∈ vs, v.noVia = true) : (Abs.tie vs).noVia = true := by
  unfold Abs.tie
  split
  · exact h _ (List.mem_cons_self ..)
  · rfl
end

/-! ### Calls -/
structure PrimOK (P : Program) (f : FuncId) (p : Prim) : Prop where
  fn : okFunc P f = true
  ok : ∀ args v, p args = some v → v.noVia = true → ∀ (s : Option Nat) (B : Nat) (F : List Nat) (S : Nat → Nat → Prop) (bl : List Nat) (cs : List Value) (H : Heap) (w : World), args.length = cs.length → St s B F S bl (args.zip cs) H w → B ≤ w.heap.size →
    Calls P f cs.toArray w fun
      | .returned c, w' => ∃ S', St s B F S' bl [(v, c)] H w' ∧ Ext s B F S bl H w S' bl H w' ∧ ∀ b ∈ bl, w'.heap[b]? = w.heap[b]?
      | _, _ => False
structure TabOK (P : Program) (T : Tab) (pure : FuncId → Bool) : Prop where
  orders : P.follows .mixedOrders = true
  code : ∀ f cf, T.prim f = none → T.code f = some cf → okFunc P f = true ∧ okF P pure f cf = true
  prim : ∀ f p, T.prim f = some p → PrimOK P f p
  pure : ∀ f, pure f = true → T.pu f = true

section
variable {P : Program} {T : Tab} {pure : FuncId → Bool}

theorem init_get : ∀ (args : List V) (i : Nat) (p : Nat × V), p ∈ initEnv i args → i ≤ p.1 ∧ p.1 < i + args.length ∧ args[p.1 - i]? = some p.2
  | [], _, _, h => by cases h
  | v :: r, i, p, h => by
    rcases List.mem_cons.1 h with rfl | h
    · exact ⟨Nat.le_refl _, by simp, by simp⟩
    · obtain ⟨h1, h2, h3⟩ := init_get r (i + 1) p h
      refine ⟨by omega, by simp only [List.length_cons]; omega, ?_⟩
      rw [show p.1 - i = (p.1 - (i + 1)) + 1 by omega, List.getElem?_cons_succ]
      exact h3
theorem init_nodup : ∀ (args : List V) (i : Nat), (keys (initEnv i args)).Nodup
  | [], _ => List.nodup_nil
  | v :: r, i => by
    simp only [initEnv, keys, List.map_cons, List.nodup_cons]
    refine ⟨fun h => ?_, init_nodup r (i + 1)⟩
    obtain ⟨p, hp, hpi⟩ := List.mem_map.1 h
    have := (init_get r (i + 1) p hp).1
    omega
theorem init_eV (a : Act) : ∀ (args : List V) (cs : List Value) (i : Nat), args.length = cs.length → (∀ j c, cs[j]? = some c → a.tmps.getD (i + j) undef = c) → eV a (initEnv i args) = args.zip cs
  | [], [], _, _, _ => rfl
  | [], _ :: _, _, h, _ => by simp at h
  | _ :: _, [], _, h, _ => by simp at h
  | v :: r, c :: cs, i, h, k => by
    have h0 := k 0 c rfl
    show (v, a.tmps.getD i undef) :: eV a (initEnv (i + 1) r) = _
    rw [init_eV a r cs (i + 1) (by simpa using h) fun j d hd => by
      have := k (j + 1) d (by simpa using hd)
      rwa [show i + (j + 1) = i + 1 + j by omega] at this]
    rw [Nat.add_zero] at h0
    rw [h0]; rfl

/-- The body of a function. -/
theorem body_ok {O : Orc} (hT : CallOK P O) (hO : OrcOK O pure) (hm : P.follows .mixedOrders = true) {f : FuncId} {cf : CF} (hok : okF P pure f cf = true) {lim : Option Nat} {k : Nat} {args : List V} {H H' : Heap} {ex : Ex} {e' : Env} {vs : List V}
    (ha : args.length = cf.np) (hx : exL O lim k cf.body (initEnv 0 args) H = some (ex, e', H')) (hex : ∀ i, ex ≠ .exit i) (hr : resAll e' H' cf.res = some vs)
    {B : Nat} {F : List Nat} {S : Nat → Nat → Prop} {bl : List Nat} {cs : List Value} {w : World} (hl : args.length = cs.length) (h : St lim B F S bl (args.zip cs) H w) (hB : B ≤ w.heap.size) :
    Calls P f cs.toArray w fun
      | .returned c, w' => ∃ S' bl' cl, c = tieC cl ∧ vs.length = cl.length ∧ (∀ v ∈ vs, v.noVia = true) ∧ St lim B F S' bl' (vs.zip cl) H' w' ∧ Ext lim B F S bl H w S' bl' H' w'
      | _, _ => False := by
  unfold okF at hok
  split at hok
  · rename_i fn hf
    simp only [Bool.and_eq_true, beq_iff_eq, decide_eq_true_eq] at hok
    obtain ⟨⟨⟨⟨h1, h2⟩, h3⟩, h4⟩, h5⟩ := hok
    split at h5
    · rename_i c hb
      refine calls_of_wp hf hb ?_
      have hsz : (cs.toArray ++ Array.replicate (fn.ntmps - cs.toArray.size) undef).size = fn.ntmps := by
        simp; omega
      have hER : ER lim B F fn.ntmps S bl (initEnv 0 args) H { tmps := cs.toArray ++ Array.replicate (fn.ntmps - cs.toArray.size) undef, defers := [] } w := by
        refine ⟨init_nodup args 0, fun p hp => ?_, ?_, hsz, rfl, hB⟩
        · have := (init_get args 0 p hp).2.1; omega
        · rw [init_eV _ args cs 0 hl fun j c hj => ?_]
          · exact h
          · have hjl := (List.getElem?_eq_some_iff.1 hj).1
            simp only [Nat.zero_add, Array.getD_eq_getD_getElem?]
            rw [Array.getElem?_append_left (by simpa using hjl)]
            simp [hj]
      refine sim_code hT hO hm k cf.body c h5 hx hER fun a' w' S' bl' g x => ?_
      have g0 : St lim B F S' bl' ([] ++ eV a' e') H' w' := g.st
      obtain ⟨cl, r1, r2, r3, r4⟩ := sim_res (P := P) h4 (nodupB_iff h3) hr g.nodup (fun _ _ => rfl) (fun n v hv => (g.slot hv).1) g0
      have hres : (results fn a'.tmps).run P w' = .ok (tieC cl) w' := by
        have e0 : (fn.results.mapM (resRun P a'.tmps)).run P w' = .ok cl.toArray w' := by
          rw [Array.mapM_eq_mapM_toList]
          simp only [Sem.run_map, r1, Result.andThen_ok]
        have e1 : results fn a'.tmps = (do let vs ← fn.results.mapM (resRun P a'.tmps); Pure.pure (if h : vs.size = 1 then vs[0] else .tuple vs)) := by
          unfold results
          congr 1
        rw [e1]
        simp only [Sem.run_bind, e0, Result.andThen_ok, Sem.run_pure]
        congr 1
        match cl with
        | [] => rfl
        | [c] => rfl
        | _ :: _ :: _ => simp [tieC]
      have post : a'.defers = [] ∧ ∃ v, (results fn a'.tmps).run P w' = .ok v w' ∧ ∃ S' bl' cl, v = tieC cl ∧ vs.length = cl.length ∧ (∀ v ∈ vs, v.noVia = true) ∧ St lim B F S' bl' (vs.zip cl) H' w' ∧ Ext lim B F S bl H w S' bl' H' w' :=
        ⟨g.defers, _, hres, S', bl', cl, rfl, r3, r4, by simpa using r2, x⟩
      cases ex with
      | nrm => exact post
      | ret => exact post
      | exit i => exact absurd rfl (hex i)
    · cases h5
  · cases hok

theorem callF_inv {n : Nat} {s : Option Nat} {f : FuncId} {args : List V} {H H' : Heap} {r : V} (h : callF T (n + 1) s f args H = some (r, H')) :
    (∃ p, T.prim f = some p ∧ p args = some r ∧ r.noVia = true ∧ H' = H) ∨
    (T.prim f = none ∧ ∃ cf ex e1 H1 vs, T.code f = some cf ∧ args.length = cf.np ∧ exL ⟨callF T n, T.pu⟩ (inner cf.mode s (base cf.mode args H)) n cf.body (initEnv 0 args) (base cf.mode args H) = some (ex, e1, H1) ∧ (∀ i, ex ≠ .exit i) ∧
      resAll e1 H1 cf.res = some vs ∧ finish cf.mode s H (base cf.mode args H) vs H1 = some (r, H')) := by
  unfold callF at h
  split at h
  · rename_i p hp
    left
    obtain ⟨v, h1, h2⟩ := Option.bind_eq_some_iff.1 h
    split at h2
    · rename_i hv
      cases h2
      exact ⟨p, hp, h1, hv, rfl⟩
    · cases h2
  · rename_i hp
    right
    refine ⟨hp, ?_⟩
    split at h
    · cases h
    · rename_i cf hc
      split at h
      · rename_i ha
        obtain ⟨⟨ex, e1, H1⟩, h1, h2⟩ := Option.bind_eq_some_iff.1 h
        refine ⟨cf, ex, e1, H1, ?_⟩
        cases ex with
        | exit i => cases h2
        | nrm => obtain ⟨vs, h3, h4⟩ := Option.bind_eq_some_iff.1 h2; exact ⟨vs, hc, ha, h1, (fun i e => by cases e), h3, h4⟩
        | ret => obtain ⟨vs, h3, h4⟩ := Option.bind_eq_some_iff.1 h2; exact ⟨vs, hc, ha, h1, (fun i e => by cases e), h3, h4⟩
      · cases h
theorem resAll_noVia {e : Env} {H : Heap} : ∀ {rs : List Rs} {vs : List V}, resAll e H rs = some vs → ∀ v ∈ vs, v.noVia = true
  | [], vs, h => by cases h; simp
  | r :: rs, vs, h => by
    obtain ⟨v, h1, h2⟩ := Option.bind_eq_some_iff.1 (show (resOf e H r).bind (fun v => if v.noVia then (resAll e H rs).map (v :: ·) else none) = some vs from h)
    split at h2
    · rename_i hv
      obtain ⟨vs', h3, rfl⟩ := Option.map_eq_some_iff.1 h2
      intro u hu
      rcases List.mem_cons.1 hu with rfl | hu
      · exact hv
      · exact resAll_noVia h3 u hu
    · cases h2
theorem map_frz_noVia {H : Heap} {m : Nat} {vs : List V} (h : ∀ v ∈ vs, v.noVia = true) : ∀ v ∈ vs.map (frz H m), v.noVia = true := by
  intro v hv
  obtain ⟨u, hu, rfl⟩ := List.mem_map.1 hv
  exact frz_noVia H m (h u hu)
theorem finish_noVia {mode : Mode} {s : Option Nat} {H H0 H1 H' : Heap} {vs : List V} {r : V} (hv : ∀ v ∈ vs, v.noVia = true) (h : finish mode s H H0 vs H1 = some (r, H')) : r.noVia = true := by
  unfold finish at h
  split at h
  · split at h
    · cases h; exact tie_noVia (map_frz_noVia hv)
    · cases h
  · split at h
    · cases h; exact tie_noVia hv
    · cases h; exact tie_noVia hv
  · cases h; exact tie_noVia hv
  · cases h; exact tie_noVia hv
theorem pu_mode {f : FuncId} {cf : CF} (hp : T.prim f = none) (hc : T.code f = some cf) : T.pu f = (cf.mode == .P) := by
  simp [Tab.pu, hp, hc]
theorem rbL_zip {n : Nat} {args : List V} {cs : List Value} (h : V.rbL n args = true) : ∀ p ∈ args.zip cs, p.1.rb n = true := by
  intro p hp
  exact V.rbL_iff.1 h _ (List.of_mem_zip (a := p.1) (b := p.2) hp).1
theorem zip_noVia {vs : List V} {cs : List Value} (h : ∀ v ∈ vs, v.noVia = true) : ∀ p ∈ vs.zip cs, p.1.noVia = true := fun p hp => h _ (List.of_mem_zip (a := p.1) (b := p.2) hp).1

theorem callF_ok (hTab : TabOK P T pure) : ∀ n, CallOK P ⟨callF T n, T.pu⟩ ∧ OrcOK ⟨callF T n, T.pu⟩ pure
  | 0 => ⟨⟨fun s f args H r H' h => (by cases h)⟩, ⟨hTab.pure, fun s f args H r H' h => (by cases h), fun s f args H r H' h => (by cases h), fun s f args H r H' _ h => (by cases h)⟩⟩
  | n + 1 => by
    obtain ⟨ih1, ih2⟩ := callF_ok hTab n
    have hnv : ∀ s f args H r H', callF T (n + 1) s f args H = some (r, H') → r.noVia = true := fun s f args H r H' h => by
      rcases callF_inv h with ⟨p, _, _, h3, _⟩ | ⟨_, cf, ex, e1, H1, vs, _, _, _, _, h5, h6⟩
      · exact h3
      · exact finish_noVia (resAll_noVia h5) h6
    have hsame : ∀ s f args H r H', callF T (n + 1) s f args H = some (r, H') → T.pu f = true → H' = H := fun s f args H r H' h hpu => by
      rcases callF_inv h with ⟨p, _, _, _, h4⟩ | ⟨hp, cf, ex, e1, H1, vs, hc, _, _, _, h5, h6⟩
      · exact h4
      · rw [pu_mode hp hc, beq_iff_eq] at hpu
        rw [hpu] at h6
        simp only [finish] at h6
        split at h6
        · cases h6; rfl
        · cases h6
    refine ⟨⟨fun s f args H r H' h => ?_⟩, ⟨hTab.pure, hsame, hnv, fun s f args H r H' hpu h hrb G => ?_⟩⟩
    · refine ⟨?_, hnv _ _ _ _ _ _ h, hsame _ _ _ _ _ _ h, fun B F S bl cs w hl hst hB => ?_⟩
      · rcases callF_inv h with ⟨p, h1, _⟩ | ⟨hp, cf, ex, e1, H1, vs, hc, _⟩
        · exact (hTab.prim f p h1).fn
        · exact (hTab.code f cf hp hc).1
      · rcases callF_inv h with ⟨p, h1, h2, h3, rfl⟩ | ⟨hp, cf, ex, e1, H1, vs, hc, ha, h1, h2, h3, h4⟩
        · refine ((hTab.prim f p h1).ok args r h2 h3 s B F S bl cs _ w hl hst hB).mono fun e w' he => ?_
          cases e with
          | returned c =>
            obtain ⟨S', k1, k2, k3⟩ := he
            exact ⟨S', bl, k1, k2, fun _ => k3⟩
          | _ => exact he.elim
        · have hok := (hTab.code f cf hp hc).2
          have hvs := resAll_noVia h3
          have hpu := pu_mode hp hc
          cases hmode : cf.mode with
          | K =>
            rw [hmode] at h1 h4 hpu
            simp only [finish, Option.some.injEq, Prod.mk.injEq] at h4
            obtain ⟨rfl, rfl⟩ := h4
            refine (body_ok ih1 ih2 hTab.orders hok ha h1 h2 h3 hl hst hB).mono fun e w' he => ?_
            cases e with
            | returned c =>
              obtain ⟨S', bl', cl, rfl, k1, k2, k3, k4⟩ := he
              exact ⟨S', bl', k3.tie k1 hvs, k4, fun q => by have q' : T.pu f = true := q; rw [hpu] at q'; cases q'⟩
            | _ => exact he.elim
          | T =>
            rw [hmode] at h1 h4 hpu
            cases s with
            | none =>
              simp only [finish, Option.some.injEq, Prod.mk.injEq] at h4
              obtain ⟨rfl, rfl⟩ := h4
              refine (body_ok ih1 ih2 hTab.orders hok ha h1 h2 h3 hl hst hB).mono fun e w' he => ?_
              cases e with
              | returned c =>
                obtain ⟨S', bl', cl, rfl, k1, k2, k3, k4⟩ := he
                exact ⟨S', bl', k3.tie k1 hvs, k4, fun q => by have q' : T.pu f = true := q; rw [hpu] at q'; cases q'⟩
              | _ => exact he.elim
            | some l =>
              simp only [finish] at h4
              split at h4
              · rename_i hrb
                rw [Bool.and_eq_true] at hrb
                obtain ⟨hrb, hkept⟩ := hrb
                cases h4
                have hle := (hst.refs l rfl).1
                refine (body_ok ih1 ih2 hTab.orders hok ha h1 h2 h3 hl hst hB).mono fun e w' he => ?_
                cases e with
                | returned c =>
                  obtain ⟨S', bl', cl, rfl, k1, k2, k3, k4⟩ := he
                  have g := k3.cut (m := H.length) (rbL_zip hrb) ⟨l, rfl, hle, fun i cs q1 q2 q3 => St.kept_all hst.wf hkept i cs q1 q2 q3⟩ k4.len
                  exact ⟨_, _, g.tie k1 hvs, Ext.cut0 hst.len k4 ⟨l, rfl, hle⟩, fun q => by have q' : T.pu f = true := q; rw [hpu] at q'; cases q'⟩
                | _ => exact he.elim
              · cases h4
                refine (body_ok ih1 ih2 hTab.orders hok ha h1 h2 h3 hl hst hB).mono fun e w' he => ?_
                cases e with
                | returned c =>
                  obtain ⟨S', bl', cl, rfl, k1, k2, k3, k4⟩ := he
                  exact ⟨S', bl', k3.tie k1 hvs, k4, fun q => by have q' : T.pu f = true := q; rw [hpu] at q'; cases q'⟩
                | _ => exact he.elim
          | P =>
            rw [hmode] at h1 h4 hpu
            simp only [finish] at h4
            split at h4
            · rename_i hrb
              cases h4
              by_cases hargs : V.rbL 0 args = true
              · -- nobody names an object
                have eb : base .P args H = [] := by simp [base, hargs]
                rw [eb] at h1 hrb ⊢
                simp only [inner, List.length_nil] at h1 hrb
                have hh := hst.hide (rbL_zip hargs)
                refine (body_ok ih1 ih2 hTab.orders hok ha h1 h2 h3 hl hh hB).mono fun e w' he => ?_
                cases e with
                | returned c =>
                  obtain ⟨S', bl', cl, rfl, k1, k2, k3, k4⟩ := he
                  have hlim : ∃ l', (some 0 : Option Nat) = some l' ∧ l' ≤ ([] : Heap).length := ⟨0, rfl, Nat.le_refl _⟩
                  have g := k3.cutFrz (m := 0) hvs rfl (Nat.zero_le _) hrb
                  have x := Ext.cut rfl k3 k4 hlim
                  simp only [List.length_nil, List.take_zero] at g x
                  obtain ⟨g1, x1, q1⟩ := hst.unhide g (zip_noVia (map_frz_noVia hvs)) x
                  exact ⟨_, bl, g1.tie (by simpa using k1) (map_frz_noVia hvs), x1, fun _ => q1⟩
                | _ => exact he.elim
              · have eb : base .P args H = H := by simp [base, hargs]
                rw [eb] at h1 hrb ⊢
                simp only [inner] at h1
                refine (body_ok ih1 ih2 hTab.orders hok ha h1 h2 h3 hl hst.pin hB).mono fun e w' he => ?_
                cases e with
                | returned c =>
                  obtain ⟨S', bl', cl, rfl, k1, k2, k3, k4⟩ := he
                  have hlim : ∃ l', (some H.length : Option Nat) = some l' ∧ l' ≤ H.length := ⟨_, rfl, Nat.le_refl _⟩
                  have g := k3.cutFrz (m := H.length) hvs rfl k4.len hrb
                  have x := Ext.cut hst.len k3 k4 hlim
                  have e1 : H1.take H.length = H := by have := (k4.objs _ rfl).2; rwa [List.take_length] at this
                  have e2 : bl'.take H.length = bl := by
                    refine List.ext_getElem? fun i => ?_
                    rw [List.getElem?_take]
                    by_cases hi : i < H.length
                    · rw [if_pos hi]
                      have hb : bl[i]? = some (bl[i]'(by rw [← hst.len]; exact hi)) := List.getElem?_eq_getElem _
                      rw [hb]
                      exact k4.bls i _ hb
                    · rw [if_neg hi, List.getElem?_eq_none (by rw [← hst.len]; omega)]
                  rw [e1, e2] at g x
                  obtain ⟨g1, x1⟩ := hst.unpin g x
                  exact ⟨_, bl, g1.tie (by simpa using k1) (map_frz_noVia hvs), x1, fun _ => x.objs_all hst⟩
                | _ => exact he.elim
            · cases h4
    · rcases callF_inv h with ⟨p, h1, h2, h3, h4⟩ | ⟨hp, cf, ex, e1, H1, vs, hc, ha, h1, h2, h3, h4⟩
      · show callF T (n + 1) s f args G = some (r, G)
        unfold callF
        rw [h1]
        simp only [h2, Option.bind_some, h3, if_true]
      · have hpu : T.pu f = true := hpu
        rw [pu_mode hp hc, beq_iff_eq] at hpu
        show callF T (n + 1) s f args G = some (r, G)
        unfold callF
        rw [hp]
        simp only [hc, if_pos ha]
        rw [hpu] at h1 h4 ⊢
        have eb : ∀ K : Heap, base .P args K = [] := fun K => by simp [base, hrb]
        rw [eb] at h1 h4 ⊢
        simp only [inner] at h1 ⊢
        rw [h1, Option.bind_some]
        have key : (resAll e1 H1 cf.res).bind (fun vs => finish .P s G [] vs H1) = some (r, G) := by
          rw [h3, Option.bind_some]
          simp only [finish] at h4 ⊢
          split at h4
          · rename_i hh
            cases h4
            rw [if_pos hh]
          · cases h4
        cases ex with
        | nrm => exact key
        | ret => exact key
        | exit i => exact absurd rfl (h2 i)

/-- **What the machine tells of a call, GoSem's call does.** -/
theorem Call_ok (hTab : TabOK P T pure) {s : Option Nat} {f : FuncId} {args : List V} {H H' : Heap} {r : V} (h : Call T s f args H = some (r, H')) {B : Nat} {F : List Nat} {S : Nat → Nat → Prop} {bl : List Nat} {cs : List Value} {w : World}
    (hl : args.length = cs.length) (hst : St s B F S bl (args.zip cs) H w) (hB : B ≤ w.heap.size) : Calls P f cs.toArray w fun
      | .returned c, w' => ∃ S' bl', St s B F S' bl' [(r, c)] H' w' ∧ Ext s B F S bl H w S' bl' H' w'
      | _, _ => False := by
  obtain ⟨n, hn⟩ := Call_iff.1 h
  refine (((callF_ok hTab n).1.ok s f args H r H' hn).2.2.2 B F S bl cs w hl hst hB).mono fun e w' he => ?_
  cases e with
  | returned c => obtain ⟨S', bl', k1, k2, _⟩ := he; exact ⟨S', bl', k1, k2⟩
  | _ => exact he.elim
end
end Go.Abs
