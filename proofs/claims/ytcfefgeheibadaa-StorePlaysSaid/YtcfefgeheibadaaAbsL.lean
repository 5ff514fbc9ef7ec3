/-
  Each operation of AbsA does what GoSem's does: all of them.
-/
import Derived.Test.YtcfefgeheibadaaAbsK
namespace Go.Abs
open Go.RowKit (Below)
set_option linter.unusedVariables false
set_option linter.unusedSimpArgs false

section
variable {P : Program} {lim : Option Nat} {B : Nat} {F : List Nat} {S : Nat → Nat → Prop} {bl : List Nat} {vals : List (V × Value)} {H : Heap} {w : World}

theorem Quiet.good {r : V} {s : Sem Value} (h : St lim B F S bl vals H w) (q : Quiet P S bl w r s) : Good P lim B F S bl H w r H ((do pure (.value (← s)) : Sem Next).run P w) :=
  QuietK.good h q.k
theorem good_map {x : Option V} {H' : Heap} {r : V} (h : x.map (·, H) = some (r, H')) : x = some r ∧ H' = H := by
  cases x with
  | none => cases h
  | some y => cases h; exact ⟨rfl, rfl⟩
theorem one_len {vs : List V} (h : vs.length = 1) : ∃ p, vs = [p] := by
  match vs, h with
  | [p], _ => exact ⟨p, rfl⟩
theorem two_len {vs : List V} (h : vs.length = 2) : ∃ p q, vs = [p, q] := by
  match vs, h with
  | [p, q], _ => exact ⟨p, q, rfl⟩
theorem neg_of {op : BinOp} {neg : Bool} (h : (op == .eql && !neg || op == .neq && neg) = true) : op = .eql ∧ neg = false ∨ op = .neq ∧ neg = true := by
  cases neg <;> simpa using h
theorem und_ex {t : TypeId} {p : TypeDesc → Bool} (h : (match P.underlying t with | some d => p d | none => false) = true) : ∃ d, P.underlying t = some d ∧ p d = true := by
  cases hd : P.underlying t with
  | none => rw [hd] at h; cases h
  | some d => rw [hd] at h; exact ⟨d, rfl, h⟩

theorem exec_b {dst : Option Tmp} {b : Builtin} {args : Array Operand} {ats : Array TypeId} {ty : TypeId} {pos : String} {after : Array Edge} {guard : Option (Nat × Bool)} (ρ : Operand → Value) :
    (execOp ρ ⟨dst, .call ⟨.builtin b, args, ats⟩, ty, pos, after, guard⟩).run P w = (builtin b ats ty (args.map fun | .const _ => true | _ => false) (args.map ρ)).run P w := by
  simp only [execOp, resolve, Sem.run_bind, Sem.run_pure, Result.andThen_ok, invoke]
  rfl
theorem ops_b {b : Builtin} {args : Array Operand} {ats : Array TypeId} : (Op.call ⟨.builtin b, args, ats⟩).operands = args := by
  simp [Op.operands, Call.operands]
theorem arr1 {args : Array Operand} (h : args.size = 1) : ∃ a, args = #[a] := by
  obtain ⟨l⟩ := args
  match l, h with
  | [a], _ => exact ⟨a, rfl⟩
theorem arr2 {args : Array Operand} (h : args.size = 2) : ∃ a b, args = #[a, b] := by
  obtain ⟨l⟩ := args
  match l, h with
  | [a, b], _ => exact ⟨a, b, rfl⟩

theorem good_app {ats : Array TypeId} {ty t u e sz bytes : Nat} {d : TypeDesc} {z : Value} {p q r : V} {a b : Value} (h : St lim B F S bl [(p, a), (q, b)] H w) (hB : B ≤ w.heap.size)
    (h0 : ats[0]? = some t) (h1 : ats[1]? = some u) (ht : P.underlying t = some (.slice e)) (hu : P.underlying u = some d) (hd : ∀ k, d ≠ .int k) (hsz : szIs P e sz = true) (hby : bytesIs P e bytes = true) (hpos : 0 < sz) (hbpos : 0 < bytes)
    (hz : (P.info? e).bind (·.zero) = some z) (hz2 : z.cells.size = sz) (hr : appendTo sz bytes p q H = some r) :
    Good P lim B F S bl H w r H ((do pure (.value (← Builtin.append_ ats ty #[a, b])) : Sem Next).run P w) := by
  obtain ⟨i, hi, hz⟩ := Option.bind_eq_some_iff.1 hz
  obtain ⟨c, w', S', h2, h3, h4⟩ := run_append (ty := ty) h hB h0 h1 ht hu hd hsz hby hpos hbpos (fun w' => ⟨z, by simp [zeroValue, run_info hi, hz], hz2⟩) hr
  exact ⟨c, w', S', bl, .inl (by simp only [Sem.run_bind, h2, Result.andThen_ok, Sem.run_pure]), h3, h4⟩
theorem good_apv {ats : Array TypeId} {ty t u e sz bytes : Nat} {d : TypeDesc} {z : Value} {p q r : V} {H' : Heap} {a b : Value} (h : St lim B F S bl [(p, a), (q, b)] H w) (hB : B ≤ w.heap.size)
    (h0 : ats[0]? = some t) (h1 : ats[1]? = some u) (ht : P.underlying t = some (.slice e)) (hu : P.underlying u = some d) (hd : ∀ k, d ≠ .int k) (hsz : szIs P e sz = true) (hby : bytesIs P e bytes = true) (hpos : 0 < sz) (hbpos : 0 < bytes)
    (hz : (P.info? e).bind (·.zero) = some z) (hz2 : z.cells.size = sz) (hr : aApv lim sz bytes H [p, q] = some (r, H')) :
    Good P lim B F S bl H w r H' ((do pure (.value (← Builtin.append_ ats ty #[a, b])) : Sem Next).run P w) := by
  by_cases hv : ∃ id o n cs, p = .via id o n cs
  · obtain ⟨id, o, n, cs, rfl⟩ := hv
    simp only [aApv] at hr
    split at hr
    · rename_i hl
      simp only [Option.bind_eq_some_iff, Option.map_eq_some_iff] at hr
      obtain ⟨s, hs, y, hy, hr⟩ := hr
      cases hr
      have h1' := h.rep _ (List.mem_cons_self ..)
      simp only [Rep] at h1'
      obtain ⟨⟨bb, hb, hc⟩, _⟩ := h1'
      obtain ⟨g1, g2⟩ := (St.drop h).unflag hs hb hc hl
      obtain ⟨c, w', S', bl', e1, e2, e3⟩ := good_app (ty := ty) g1 hB h0 h1 ht hu hd hsz hby hpos hbpos hz hz2 hy
      exact ⟨c, w', S', bl', e1, e2, g2.trans e3⟩
    · cases hr
  · have : aApv lim sz bytes H [p, q] = (appendTo sz bytes p q H).map (·, H) := by
      cases p <;> first | rfl | exact absurd ⟨_, _, _, _, rfl⟩ hv
    rw [this] at hr
    obtain ⟨hr, rfl⟩ := good_map hr
    exact good_app h hB h0 h1 ht hu hd hsz hby hpos hbpos hz hz2 hr

theorem good_apg {ats : Array TypeId} {ty t u e sz bytes : Nat} {d : TypeDesc} {z : Value} {p q r : V} {H' : Heap} {a b : Value} (h : St lim B F S bl [(p, a), (q, b)] H w) (hB : B ≤ w.heap.size)
    (h0 : ats[0]? = some t) (h1 : ats[1]? = some u) (ht : P.underlying t = some (.slice e)) (hu : P.underlying u = some d) (hd : ∀ k, d ≠ .int k) (hsz : szIs P e sz = true) (hby : bytesIs P e bytes = true) (hpos : 0 < sz) (hbpos : 0 < bytes)
    (hz : (P.info? e).bind (·.zero) = some z) (hz2 : z.cells.size = sz) (hr : aApg lim sz bytes H [p, q] = some (r, H')) :
    Good P lim B F S bl H w r H' ((do pure (.value (← Builtin.append_ ats ty #[a, b])) : Sem Next).run P w) := by
  obtain ⟨i, hi, hz⟩ := Option.bind_eq_some_iff.1 hz
  obtain ⟨c, w', S', bl', h2, h3, h4⟩ := run_apg (ty := ty) h hB h0 h1 ht hu hd hsz hby hpos hbpos (fun w' => ⟨z, by simp [zeroValue, run_info hi, hz], hz2⟩) hr
  exact ⟨c, w', S', bl', .inl (by simp only [Sem.run_bind, h2, Result.andThen_ok, Sem.run_pure]), h3, h4⟩

theorem good_clr {ats : Array TypeId} {ty t e sz : Nat} {zero : List V} {p r : V} {H' : Heap} {a : Value} (h : St lim B F S bl [(p, a)] H w)
    (h0 : ats[0]? = some t) (ht : P.underlying t = some (.slice e)) (hsz : szIs P e sz = true) (hz : zeroIs P e zero = true) (hzl : zero.length = sz) (hr : aClr lim sz zero H [p] = some (r, H')) :
    Good P lim B F S bl H w r H' ((do pure (.value (← Builtin.clear_ ats ty #[a])) : Sem Next).run P w) := by
  have h1 : Rep S bl w p a := h.rep _ (List.mem_cons_self ..)
  have hr0 : ∀ {S' : Nat → Nat → Prop} {bl' : List Nat} {w' : World}, Rep S' bl' w' (.tup []) (.tuple #[]) := by simp only [Rep]; exact ⟨#[], rfl, by simp [RepL], by simp⟩
  have quiet : ∀ (x : Option Addr) (n c : Nat), a = .slice x n c → n = 0 → r = .tup [] → H' = H → Good P lim B F S bl H w r H' ((do pure (.value (← Builtin.clear_ ats ty #[a])) : Sem Next).run P w) := by
    rintro x n c rfl rfl rfl rfl
    refine ⟨.tuple #[], w, S, bl, .inl ?_, h.nil.add0 hr0 rfl, Ext.refl _ _ _ _ _ _ _⟩
    cases x <;> simp [Builtin.clear_, h0, run_und ht]
  cases p <;> try (simp [aClr] at hr; done)
  · rename_i own n cs
    cases n with
    | succ n => simp [aClr] at hr
    | zero =>
      simp only [aClr, Option.some.injEq, Prod.mk.injEq] at hr
      simp only [Rep] at h1
      obtain ⟨x, cap, rfl, _⟩ := h1
      exact quiet _ _ _ rfl rfl hr.1.symm hr.2.symm
  · rename_i sz' id off n k
    simp only [aClr] at hr
    split at hr
    · rename_i hc
      obtain ⟨rfl, hm⟩ := hc
      obtain ⟨cs, hH, hr⟩ := Option.bind_eq_some_iff.1 hr
      split at hr
      · rename_i hlen
        cases hr
        simp only [Rep] at h1
        obtain ⟨bb, cap, hb, ⟨hnk, hkc⟩, rfl, hfit⟩ := h1
        obtain ⟨z, hz1, hz2⟩ := run_zero (w := w) hz
        obtain ⟨z3, z4⟩ := okVs_rep (S := S) (bl := bl) (w := w) zero z.cells.toList hz2
        have hZ : z.cells.size = sz' := by rw [← Array.length_toList]; have := ((RepL_iff _ _).1 z3).1; omega
        have hrl : (reps zero n).length = n * sz' := by rw [reps_length, hzl]
        by_cases hn : n = 0
        · subst hn
          refine ⟨.tuple #[], w, S, bl, .inl ?_, ?_, ?_⟩
          · simp [Builtin.clear_, h0, run_und ht]
          · have e : H.set id (lay cs off (reps zero 0)) = H := by
              have : lay cs off (reps zero 0) = cs := by simp [lay, reps]
              rw [this]
              refine List.ext_getElem? fun j => ?_
              rw [List.getElem?_set]
              by_cases hj : id = j
              · subst hj; rw [if_pos rfl, if_pos (List.getElem?_eq_some_iff.1 hH).1, hH]
              · rw [if_neg hj]
            rw [e]; exact h.nil.add0 hr0 rfl
          · have e : H.set id (lay cs off (reps zero 0)) = H := by
              have : lay cs off (reps zero 0) = cs := by simp [lay, reps]
              rw [this]
              refine List.ext_getElem? fun j => ?_
              rw [List.getElem?_set]
              by_cases hj : id = j
              · subst hj; rw [if_pos rfl, if_pos (List.getElem?_eq_some_iff.1 hH).1, hH]
              · rw [if_neg hj]
            rw [e]; exact Ext.refl _ _ _ _ _ _ _
        · have hpos : 0 < n * sz' → 0 < sz' := fun q => mul_pos_r q
          have er := reps_rep (n := n) z3 hzl hpos
          have et := reps_tips (n := n) hz2 hzl
          have es : (Builtin.zeroCells z.cells n).toList = ((Array.range (n * sz')).map (z.cells[· % z.cells.size]!)).toList := by simp [Builtin.zeroCells, hZ]
          rw [← es] at er et
          obtain ⟨carr, el, lo, hi, q1, q2, q3⟩ := (h.obj id cs bb hH hb).ex
          have hlz : (Builtin.zeroCells z.cells n).toList.length = n * sz' := by rw [← ((RepL_iff _ _).1 er).1, hrl]
          obtain ⟨g1, g2⟩ := setObjs (F := F) (vals := []) hb (reps zero n) _ off H w cs (by rw [et]; simpa [blks] using h.nil) (fun p hp => by cases hp) hH (by omega) er (reps_single z4 n) (fun t ht => by rw [et] at ht; cases ht) (by cases lim <;> exact hm)
          refine ⟨.tuple #[], _, _, _, .inl ?_, g1.add0 hr0 rfl, g2⟩
          have hstore := run_storeCells P (b := bb) (o := off) (Builtin.zeroCells z.cells n).toList 0 w carr el lo hi q1 (by omega) (fun j hj hj' => q3 j hj') (er.oneCell (reps_single z4 n))
          rw [Nat.add_zero] at hstore
          obtain ⟨n, rfl⟩ : ∃ m, n = m + 1 := ⟨n - 1, by omega⟩
          simp only [Builtin.clear_, h0, List.getElem?_toArray, List.getElem?_cons_zero, Sem.run_bind, run_und ht, Result.andThen_ok, hz1, hstore, Sem.run_pure]
      · cases hr
    · cases hr
  · simp only [aClr, Option.some.injEq, Prod.mk.injEq] at hr
    simp only [Rep] at h1
    exact quiet _ _ _ h1 rfl hr.1.symm hr.2.symm

set_option maxHeartbeats 4000000 in
theorem apply_sound {dst : Option Tmp} {op : Op} {ty : TypeId} {pos : String} {after : Array Edge} {guard : Option (Nat × Bool)} {a : O} {vs : List V} {r : V} {H' : Heap} (ρ : Operand → Value)
    (hok : okO P op a = true) (hl : vs.length = op.operands.toList.length) (h : St lim B F S bl (vs.zip (op.operands.toList.map ρ)) H w) (hB : B ≤ w.heap.size) (hr : apply lim a vs H = some (r, H')) :
    Good P lim B F S bl H w r H' ((execOp ρ ⟨dst, op, ty, pos, after, guard⟩).run P w) := by
  have hvs : RepL S bl w vs (op.operands.toList.map ρ) := by
    refine (RepL_iff _ _).2 ⟨by simp [hl], fun j v c hv hc => h.rep (v, c) ?_⟩
    exact List.mem_of_getElem? (i := j) (by rw [List.getElem?_zip_eq_some]; exact ⟨hv, hc⟩)
  rw [okO.eq_def] at hok
  split at hok
  · -- bin
    simp only [Bool.and_eq_true, beq_iff_eq] at hok
    obtain ⟨rfl, _⟩ := hok
    obtain ⟨p, q, rfl⟩ := two_len hl
    obtain ⟨hr', rfl⟩ := good_map (show (aBin _ [p, q]).map (·, H) = _ from hr)
    obtain ⟨_, _, e, h1, h2⟩ := two_inv (show RepL S bl w [p, q] [_, _] from hvs)
    cases e
    exact Quiet.good h (q_bin h1 h2 hr')
  · -- beq
    simp only [Bool.and_eq_true] at hok
    obtain ⟨ho, ht⟩ := hok
    split at ht
    · rename_i hd
      obtain ⟨hr', rfl⟩ := good_map (show (aBeq _ vs).map (·, H) = _ from hr)
      exact Quiet.good h (q_beq hvs (neg_of ho) hd hr')
    · cases ht
  · -- peq
    simp only [Bool.and_eq_true] at hok
    obtain ⟨ho, ht⟩ := hok
    split at ht
    · rename_i hd
      obtain ⟨hr', rfl⟩ := good_map (show (aPeq _ vs).map (·, H) = _ from hr)
      exact Quiet.good h (q_peq hvs (neg_of ho) hd hr')
    · cases ht
  · -- ieq
    simp only [Bool.and_eq_true] at hok
    obtain ⟨⟨ho, ht⟩, hc⟩ := hok
    split at ht
    · rename_i hd
      obtain ⟨hr', rfl⟩ := good_map (show (aIeq _ vs).map (·, H) = _ from hr)
      exact Quiet.good h (q_ieq hvs (neg_of ho) hd hc hr')
    · cases ht
  · -- un
    simp only [beq_iff_eq] at hok
    subst hok
    obtain ⟨p, rfl⟩ := one_len hl
    obtain ⟨hr', rfl⟩ := good_map (show (aUn _ [p]).map (·, H) = _ from hr)
    obtain ⟨_, e, h1⟩ := one_inv (show RepL S bl w [p] [_] from hvs)
    cases e
    exact Quiet.good h (q_un h1 hr')
  · -- fa
    split at hok
    · rename_i hs
      split at hok
      · rename_i g hf
        simp only [Bool.and_eq_true, beq_iff_eq] at hok
        obtain ⟨ho, hi⟩ := hok
        split at hi
        · rename_i i hi'
          obtain ⟨hr', rfl⟩ := good_map (show (aFa _ vs).map (·, H) = _ from hr)
          exact Quiet.good h (q_fa hvs hs hf ho hi' (by simpa using hi) hr')
        · cases hi
      · cases hok
    · cases hok
  · -- ix
    split at hok
    · rename_i e ht
      obtain ⟨hr', rfl⟩ := good_map (show (aIx _ vs).map (·, H) = _ from hr)
      exact Quiet.good h (q_ix hvs ht hok hr')
    · cases hok
  · -- ixa
    split at hok
    · rename_i n e ht
      simp only [Bool.and_eq_true, beq_iff_eq] at hok
      obtain ⟨rfl, hz⟩ := hok
      obtain ⟨hr', rfl⟩ := good_map (show (aIxa _ _ vs).map (·, H) = _ from hr)
      exact Quiet.good h (q_ixa hvs ht hz hr')
    · cases hok
  · -- ld
    rename_i t x
    obtain ⟨hr', rfl⟩ := good_map (show (aLd H vs).map (·, H) = _ from hr)
    obtain ⟨d, hd, hag⟩ : ∃ d, P.underlying t = some d ∧ isAggB P t = false := by
      cases hd : P.underlying t with
      | none => rw [hd] at hok; cases hok
      | some d => refine ⟨d, rfl, ?_⟩; unfold isAggB; rw [hd] at hok ⊢; cases d <;> first | rfl | cases hok
    exact Quiet.good h (q_ld h hvs hd hag hr')
  · -- lv
    rename_i t x
    obtain ⟨hr', rfl⟩ := good_map (show (aLv H vs).map (·, H) = _ from hr)
    obtain ⟨d, hd, hag⟩ : ∃ d, P.underlying t = some d ∧ isAggB P t = false := by
      cases hd : P.underlying t with
      | none => rw [hd] at hok; cases hok
      | some d => refine ⟨d, rfl, ?_⟩; unfold isAggB; rw [hd] at hok ⊢; cases d <;> first | rfl | cases hok
    exact Quiet.good h (q_lv h hvs hd hag hr')
  · -- ldn
    simp only [Bool.and_eq_true] at hok
    obtain ⟨hr', rfl⟩ := good_map (show (aLdn _ H vs).map (·, H) = _ from hr)
    exact Quiet.good h (q_ldn h hvs hok.1 hok.2 hr')
  · -- st
    obtain ⟨p, q, rfl⟩ := two_len hl
    exact good_st h hok hr
  · -- stn
    obtain ⟨p, q, rfl⟩ := two_len hl
    exact good_stn h hok hr
  · -- nc
    rename_i x
    obtain ⟨hr', rfl⟩ := good_map (show (aNc vs).map (·, H) = _ from hr)
    obtain ⟨ad, e1, e2, e3⟩ := q_nc hvs hr'
    simp only [execOp, e1, Sem.run_pure]
    rw [e1] at e2 e3
    exact good0 h e2 e3
  · -- box
    obtain ⟨p, rfl⟩ := one_len hl
    exact good_box h hB hr
  · -- bfp
    obtain ⟨p, rfl⟩ := one_len hl
    obtain ⟨hr', rfl⟩ := good_map (show (aBfp _ [p]).map (·, H) = _ from hr)
    exact good_bfp h hB hr'
  · -- alc
    have : vs = [] := List.length_eq_zero_iff.1 hl
    subst this
    simp only [apply, List.isEmpty_nil, if_true] at hr
    cases hr
    exact good_alc h hB hok
  · -- bld
    rename_i t ps z qs
    simp only [apply, Option.map_eq_some_iff] at hr
    obtain ⟨cs, hcs, e⟩ := hr
    cases e
    have e0 : (Op.build t ps).operands.toList.map ρ = (ps.toList.map fun p => (p.1, ρ p.2)).map (·.2) := by simp [Op.operands, Function.comp_def]
    have e1 : (ps.map fun p => (p.1, ρ p.2)) = (ps.toList.map fun p => (p.1, ρ p.2)).toArray := by apply Array.ext'; simp
    rw [e0] at h hvs
    simp only [Bool.and_eq_true] at hok
    obtain ⟨hz, hok⟩ := hok
    show Good P lim B F S bl H w _ H ((do pure (.value (← Instr.build t (ps.map fun p => (p.1, ρ p.2)))) : Sem Next).run P w)
    rw [e1]
    split at hok
    · rename_i fs hfs
      simp only [Bool.and_eq_true, List.all_eq_true] at hok
      exact QuietK.good h (q_bldS h hvs hz hfs hok.1 (okParts_spec ρ hok.2) hcs)
    · rename_i n e he
      split at hok
      · rename_i i hi
        simp only [Bool.and_eq_true, List.all_eq_true, beq_iff_eq] at hok
        refine QuietK.good h (q_bldA h hvs hz he hi ((okElems_spec ρ hok.1).trans ?_) hcs)
        congr 1
        rw [List.map_map]
        conv => rhs; rw [← List.map_id qs]
        refine List.map_congr_left fun q hq => ?_
        simp only [Function.comp, id]
        rw [← hok.2 q hq]
      · cases hok
    · cases hok
  · -- bsl
    rename_i t n ps sz z len offs
    simp only [apply] at hr
    split at hr
    · rename_i hle
      obtain ⟨cs, hcs, e⟩ := Option.map_eq_some_iff.1 hr
      cases e
      have e0 : (Op.buildSlice t n ps).operands.toList.map ρ = (ps.toList.map fun p => (p.1, ρ p.2)).map (·.2) := by simp [Op.operands, Function.comp_def]
      have e1 : (ps.map fun p => (p.1, ρ p.2)) = (ps.toList.map fun p => (p.1, ρ p.2)).toArray := by apply Array.ext'; simp
      rw [e0] at h hvs
      simp only [Bool.and_eq_true, beq_iff_eq] at hok
      obtain ⟨rfl, hok⟩ := hok
      show Good P lim B F S bl H w _ H ((do pure (.value (← Instr.buildSlice t n (ps.map fun p => (p.1, ρ p.2)))) : Sem Next).run P w)
      rw [e1]
      split at hok
      · rename_i e he
        simp only [Bool.and_eq_true] at hok
        obtain ⟨⟨h1, h2⟩, h3⟩ := hok
        exact good_bsl h hB hvs he h1 (by split at h2 <;> simp_all) (okElems_spec ρ h3) hle hcs
      · cases hok
    · cases hr
  · -- fld
    obtain ⟨p, rfl⟩ := one_len hl
    obtain ⟨hr', rfl⟩ := good_map (show (aFld _ _ [p]).map (·, H) = _ from hr)
    split at hok
    · rename_i fs hs
      split at hok
      · rename_i g hf
        simp only [Bool.and_eq_true, beq_iff_eq] at hok
        obtain ⟨ho, hz⟩ := hok
        refine QuietK.good h (q_fld h hs hf ho ?_ hr')
        split at hz
        · cases hd : P.underlying g.type with
          | none => rw [hd] at hz; cases hz
          | some d => refine ⟨⟨d, rfl⟩, ?_⟩; unfold isAggB; rw [hd] at hz ⊢; cases d <;> first | rfl | cases hz
        · simpa using hz
      · cases hok
    · cases hok
  · -- ixs
    obtain ⟨hr', rfl⟩ := good_map (show (aIxs vs).map (·, H) = _ from hr)
    split at hok
    · rename_i ht
      exact Quiet.good h (q_ixs hvs ht hr')
    · cases hok
  · -- ixv
    obtain ⟨p, q, rfl⟩ := two_len hl
    obtain ⟨hr', rfl⟩ := good_map (show (aIxv _ _ _ [p, q]).map (·, H) = _ from hr)
    split at hok
    · rename_i n e ht
      simp only [Bool.and_eq_true, beq_iff_eq] at hok
      obtain ⟨⟨rfl, hz⟩, ho⟩ := hok
      obtain ⟨d, hd, hag⟩ : ∃ d, P.underlying e = some d ∧ isAggB P e = !‹Bool› := by
        unfold isAggB; split at ho <;> simp_all
      exact QuietK.good h (q_ixv h ht hz hd hag hr')
    · cases hok
  · -- slc
    rename_i t x lo hi sz l hh
    cases vs with
    | nil => simp [Op.operands] at hl
    | cons p bs =>
      obtain ⟨hr', rfl⟩ := good_map (show (aSlc _ _ _ (p :: bs)).map (·, H) = _ from hr)
      simp only [Bool.and_eq_true, beq_iff_eq] at hok
      obtain ⟨⟨h1, h2⟩, h3⟩ := hok
      split at h3
      · rename_i e ht
        have e0 : (Op.slice t x lo hi none).operands.toList.map ρ = ρ x :: ((lo.map ρ).toList ++ (hi.map ρ).toList) := by
          cases lo <;> cases hi <;> rfl
        rw [e0] at h hvs
        simp only [RepL] at hvs
        obtain ⟨_, _, e, _, hvs⟩ := hvs
        cases e
        exact QuietK.good h (q_slc h hvs rfl ht h3 (by simpa using h1) (by simpa using h2) hr')
      · cases h3
  · -- sl3
    rename_i t x lo hi mx sz
    obtain ⟨hr', rfl⟩ := good_map (show (aSl3 _ vs).map (·, H) = _ from hr)
    split at hok
    · rename_i e ht
      exact Quiet.good h (q_sl3 (show RepL S bl w vs [ρ x, ρ lo, ρ hi, ρ mx] from hvs) ht hok hr')
    · cases hok
  · -- sls
    rename_i t x lo hi l hh
    obtain ⟨hr', rfl⟩ := good_map (show (aSls _ _ vs).map (·, H) = _ from hr)
    simp only [Bool.and_eq_true, beq_iff_eq] at hok
    obtain ⟨⟨h1, h2⟩, h3⟩ := hok
    split at h3
    · rename_i ht
      have e0 : (Op.slice t x lo hi none).operands.toList.map ρ = ρ x :: ((lo.map ρ).toList ++ (hi.map ρ).toList) := by
        cases lo <;> cases hi <;> rfl
      rw [e0] at hvs
      exact Quiet.good h (q_sls hvs ht (by simpa using h1) (by simpa using h2) hr')
    · cases h3
  · -- app
    rename_i call args argTypes sz bytes
    split at hok
    · rename_i t u h0 h1
      split at hok
      · rename_i e d ht hu
        simp only [Bool.and_eq_true, decide_eq_true_eq] at hok
        obtain ⟨⟨⟨⟨⟨hsz, hby⟩, hp⟩, hbp⟩, hnd⟩, hz⟩ := hok
        split at hz
        · rename_i z hz'
          simp only [beq_iff_eq] at hz
          have hd : ∀ k, d ≠ .int k := by rintro k rfl; cases hnd
          match vs, hr with
          | [], hr => cases hr
          | [_], hr => cases hr
          | _ :: _ :: _ :: _, hr => cases hr
          | [p, q], hr =>
            rw [ops_b] at hl h hvs
            obtain ⟨a, b, hab⟩ := arr2 (args := args) (by simpa using hl.symm)
            subst hab
            rw [exec_b]
            simp only [List.map_toArray, List.map_cons, List.map_nil, List.zip_cons_cons, List.zip_nil_left] at h ⊢
            exact (by
              obtain ⟨hr', rfl⟩ := good_map (show (appendTo _ _ p q H).map (·, H) = _ from hr)
              exact good_app h hB h0 h1 ht hu hd hsz hby hp hbp hz' hz hr')
        · cases hz
      · cases hok
    · cases hok
  · -- apv
    rename_i call args argTypes sz bytes
    split at hok
    · rename_i t u h0 h1
      split at hok
      · rename_i e d ht hu
        simp only [Bool.and_eq_true, decide_eq_true_eq] at hok
        obtain ⟨⟨⟨⟨⟨hsz, hby⟩, hp⟩, hbp⟩, hnd⟩, hz⟩ := hok
        split at hz
        · rename_i z hz'
          simp only [beq_iff_eq] at hz
          have hd : ∀ k, d ≠ .int k := by rintro k rfl; cases hnd
          match vs, hr with
          | [], hr => cases hr
          | [_], hr => cases hr
          | _ :: _ :: _ :: _, hr => cases hr
          | [p, q], hr =>
            rw [ops_b] at hl h hvs
            obtain ⟨a, b, hab⟩ := arr2 (args := args) (by simpa using hl.symm)
            subst hab
            rw [exec_b]
            simp only [List.map_toArray, List.map_cons, List.map_nil, List.zip_cons_cons, List.zip_nil_left] at h ⊢
            exact good_apv h hB h0 h1 ht hu hd hsz hby hp hbp hz' hz hr
        · cases hz
      · cases hok
    · cases hok
  · -- apg
    rename_i call args argTypes sz bytes
    split at hok
    · rename_i t u h0 h1
      split at hok
      · rename_i e d ht hu
        simp only [Bool.and_eq_true, decide_eq_true_eq] at hok
        obtain ⟨⟨⟨⟨⟨hsz, hby⟩, hp⟩, hbp⟩, hnd⟩, hz⟩ := hok
        split at hz
        · rename_i z hz'
          simp only [beq_iff_eq] at hz
          have hd : ∀ k, d ≠ .int k := by rintro k rfl; cases hnd
          match vs, hr with
          | [], hr => cases hr
          | [_], hr => simp [apply, aApg] at hr
          | _ :: _ :: _ :: _, hr => simp [apply, aApg] at hr
          | [p, q], hr =>
            rw [ops_b] at hl h hvs
            obtain ⟨a, b, hab⟩ := arr2 (args := args) (by simpa using hl.symm)
            subst hab
            rw [exec_b]
            simp only [List.map_toArray, List.map_cons, List.map_nil, List.zip_cons_cons, List.zip_nil_left] at h ⊢
            exact good_apg h hB h0 h1 ht hu hd hsz hby hp hbp hz' hz hr
        · cases hz
      · cases hok
    · cases hok
  · -- len
    rename_i call args argTypes s
    simp only [Bool.and_eq_true, beq_iff_eq] at hok
    obtain ⟨hs1, hok⟩ := hok
    obtain ⟨a, rfl⟩ := arr1 hs1
    rw [ops_b] at hl h hvs
    rw [exec_b]
    simp only [List.map_toArray, List.map_cons, List.map_nil] at h hvs ⊢
    obtain ⟨hr', rfl⟩ := good_map (show (aLen s vs).map (·, H) = _ from hr)
    split at hok
    · rename_i t h0
      split at hok
      · rename_i ht
        subst hok
        exact Quiet.good h (q_lenS hvs h0 ht hr')
      · rename_i e ht
        simp only [Bool.not_eq_true'] at hok
        subst hok
        exact Quiet.good h (q_lenL hvs h0 ht hr')
      · cases hok
    · cases hok
  · -- kst
    rename_i call args argTypes v
    simp only [Bool.and_eq_true, beq_iff_eq] at hok
    obtain ⟨hs1, hok⟩ := hok
    obtain ⟨a, rfl⟩ := arr1 hs1
    rw [ops_b] at hl h hvs
    rw [exec_b]
    simp only [List.map_toArray, List.map_cons, List.map_nil] at h hvs ⊢
    cases hr
    split at hok
    · rename_i t h0
      split at hok
      · rename_i n e ht
        refine Quiet.good h (s := Builtin.len_ argTypes ty #[ρ a]) ⟨goInt n, ?_, okV_rep _ _ hok, okV_tips _ _ hok⟩
        simp only [Builtin.len_, h0, List.getElem?_toArray, List.getElem?_cons_zero, Sem.run_bind, run_und ht, Result.andThen_ok, Sem.run_pure]
      · rename_i e ht
        split at hok
        · rename_i n e' he
          refine Quiet.good h (s := Builtin.len_ argTypes ty #[ρ a]) ⟨goInt n, ?_, okV_rep _ _ hok, okV_tips _ _ hok⟩
          simp only [Builtin.len_, h0, List.getElem?_toArray, List.getElem?_cons_zero, Sem.run_bind, run_und ht, run_und he, Result.andThen_ok, Sem.run_pure]
        · cases hok
      · cases hok
    · cases hok
  · -- clr
    rename_i call args argTypes sz z
    simp only [Bool.and_eq_true, beq_iff_eq] at hok
    obtain ⟨hs1, hok⟩ := hok
    obtain ⟨a, rfl⟩ := arr1 hs1
    rw [ops_b] at hl h hvs
    rw [exec_b]
    simp only [List.map_toArray, List.map_cons, List.map_nil] at h hvs ⊢
    split at hok
    · rename_i t h0
      split at hok
      · rename_i e ht
        simp only [Bool.and_eq_true, beq_iff_eq] at hok
        obtain ⟨⟨o1, o2⟩, o3⟩ := hok
        match vs, hl, hr, h with
        | [p], _, hr, h => exact good_clr (by simpa using h) h0 ht o1 o2 o3 hr
      · cases hok
    · cases hok
  · -- mx
    rename_i call args argTypes
    rw [ops_b] at hl h hvs
    rw [exec_b]
    cases vs with
    | nil => cases hr
    | cons p vs =>
      obtain ⟨hr', rfl⟩ := good_map (show (aMx (p :: vs)).map (·, H) = _ from hr)
      obtain ⟨l⟩ := args
      match l, hl, h, hvs with
      | [], hl, _, _ => simp at hl
      | x :: l, hl, h, hvs =>
        simp only [List.map_toArray, List.map_cons, List.zip_cons_cons] at h hvs ⊢
        simp only [RepL] at hvs
        obtain ⟨_, _, e, h1, h2⟩ := hvs
        cases e
        refine QuietK.good h (s := (l.map ρ).foldlM Builtin.max2 (ρ x)) ?_
        cases vs with
        | nil =>
          have : l = [] := by simpa using hl
          subst this
          simp only [aMx, mxn, Option.some.injEq] at hr'
          subst hr'
          exact ⟨ρ x, rfl, h1, fun t ht => (h.tip t (.inl (by simpa [vtips] using ht))), fun y => by simp [vtips]⟩
        | cons q vs =>
          exact Quiet.k (q_mxn (fun k x j y => by simp only [Builtin.max2, Sem.run_pure]; congr 2; simp) h1 h2 (mxn_int hr' (by simp)) hr')
  · -- mn
    rename_i call args argTypes
    rw [ops_b] at hl h hvs
    rw [exec_b]
    cases vs with
    | nil => cases hr
    | cons p vs =>
      obtain ⟨hr', rfl⟩ := good_map (show (aMn (p :: vs)).map (·, H) = _ from hr)
      obtain ⟨l⟩ := args
      match l, hl, h, hvs with
      | [], hl, _, _ => simp at hl
      | x :: l, hl, h, hvs =>
        simp only [List.map_toArray, List.map_cons, List.zip_cons_cons] at h hvs ⊢
        simp only [RepL] at hvs
        obtain ⟨_, _, e, h1, h2⟩ := hvs
        cases e
        refine QuietK.good h (s := (l.map ρ).foldlM Builtin.min2 (ρ x)) ?_
        cases vs with
        | nil =>
          have : l = [] := by simpa using hl
          subst this
          simp only [aMn, mxn, Option.some.injEq] at hr'
          subst hr'
          exact ⟨ρ x, rfl, h1, fun t ht => (h.tip t (.inl (by simpa [vtips] using ht))), fun y => by simp [vtips]⟩
        | cons q vs =>
          exact Quiet.k (q_mxn (fun k x j y => by simp only [Builtin.min2, Sem.run_pure]; congr 2; simp) h1 h2 (mxn_int hr' (by simp)) hr')
  · -- cvi
    obtain ⟨hr', rfl⟩ := good_map (show (aCvi _ vs).map (·, H) = _ from hr)
    split at hok
    · rename_i j k' h1 h2
      simp only [beq_iff_eq] at hok
      subst hok
      exact Quiet.good h (q_cvi hvs h1 h2 hr')
    · cases hok
  · -- cvs
    obtain ⟨hr', rfl⟩ := good_map (show (aCvs vs).map (·, H) = _ from hr)
    split at hok
    · rename_i h1 h2
      exact Quiet.good h (q_cvs hvs h1 h2 hr')
    · cases hok
  · -- b2s
    obtain ⟨hr', rfl⟩ := good_map (show (aB2s vs).map (·, H) = _ from hr)
    split at hok
    · rename_i e h1 h2
      split at hok
      · rename_i h3
        exact Quiet.good h (q_b2s hvs h1 h3 h2 hr')
      · cases hok
    · cases hok
  · -- s2b
    obtain ⟨p, rfl⟩ := one_len hl
    obtain ⟨hr', rfl⟩ := good_map (show (aS2b [p]).map (·, H) = _ from hr)
    split at hok
    · rename_i e h1 h2
      split at hok
      · rename_i h3
        exact good_s2b h hB h1 h2 h3 hr'
      · cases hok
    · cases hok
  · -- mif
    rename_i t x u
    simp only [Bool.and_eq_true, beq_iff_eq] at hok
    obtain ⟨rfl, ho⟩ := hok
    obtain ⟨p, rfl⟩ := one_len hl
    obtain ⟨hr', rfl⟩ := good_map (show (aMif _ [p]).map (·, H) = _ from hr)
    obtain ⟨_, e, h1⟩ := one_inv (show RepL S bl w [p] [_] from hvs)
    cases e
    obtain ⟨d, hd, hag⟩ : ∃ d, P.underlying t = some d ∧ ∀ ms, d ≠ .interface ms := by
      cases hd : P.underlying t with
      | none => rw [hd] at ho; cases ho
      | some d => refine ⟨d, rfl, ?_⟩; rintro ms rfl; rw [hd] at ho; cases ho
    exact Quiet.good h (q_mif h1 hd hag hr')
  · -- tas
    rename_i x xt a ok t ok' z
    simp only [Bool.and_eq_true, beq_iff_eq] at hok
    obtain ⟨⟨⟨rfl, rfl⟩, hz⟩, ho⟩ := hok
    obtain ⟨hr', rfl⟩ := good_map (show (aTas _ _ _ vs).map (·, H) = _ from hr)
    obtain ⟨d, hd, hag⟩ : ∃ d, P.underlying a = some d ∧ ∀ ms, d ≠ .interface ms := by
      cases hd : P.underlying a with
      | none => rw [hd] at ho; cases ho
      | some d => refine ⟨d, rfl, ?_⟩; rintro ms rfl; rw [hd] at ho; cases ho
    exact Quiet.good h (q_tas hvs hd hag hz hr')
  · -- tai
    rename_i x xt a ok ts ns ok'
    simp only [Bool.and_eq_true, beq_iff_eq] at hok
    obtain ⟨⟨rfl, hz⟩, ho⟩ := hok
    obtain ⟨hr', rfl⟩ := good_map (show (aTai _ _ _ vs).map (·, H) = _ from hr)
    split at ho
    · rename_i want hd
      simp only [Bool.and_eq_true, List.all_eq_true] at ho
      refine Quiet.good h (q_tai hvs hd hz (fun u hu => ?_) (fun u hu => ?_) hr')
      · have := ho.1 u (by simpa using hu)
        split at this
        · rename_i i hi; exact ⟨i, hi, by simpa using this⟩
        · cases this
      · have := ho.2 u (by simpa using hu)
        split at this
        · rename_i i hi; exact ⟨i, (Option.isSome_iff_exists.1 this).choose, hi, (Option.isSome_iff_exists.1 this).choose_spec⟩
        · cases this
    · cases ho
  · -- ext
    simp only [beq_iff_eq] at hok
    subst hok
    obtain ⟨p, rfl⟩ := one_len hl
    obtain ⟨hr', rfl⟩ := good_map (show (aExt _ [p]).map (·, H) = _ from hr)
    exact QuietK.good h (q_ext (vs := []) h hr')
  · -- mkf
    rename_i f first caps g
    simp only [Bool.and_eq_true, beq_iff_eq, List.isEmpty_iff] at hok
    obtain ⟨rfl, hf⟩ := hok
    have : first = #[] := by cases first; simp_all
    subst this
    simp only [apply] at hr
    split at hr
    · rename_i hs
      cases hr
      have e0 : (Op.makeFunc (.func f) #[] caps).operands.toList.map ρ = (caps.map ρ).toList := by simp [Op.operands]
      rw [e0] at hvs
      exact Quiet.good h (s := Instr.makeFunc (.func f) ((#[] : Array Operand).map ρ) (caps.map ρ)) (by simpa using q_mkf hvs hs)
    · cases hr
  · -- mks
    obtain ⟨p, q, rfl⟩ := two_len hl
    split at hok
    · rename_i e ht
      simp only [Bool.and_eq_true, beq_iff_eq, decide_eq_true_eq] at hok
      obtain ⟨⟨⟨⟨h1, h2⟩, h3⟩, h4⟩, h5⟩ := hok
      exact good_mks h hB ht h1 h2 h3 h4 h5 hr
    · cases hok
  · cases hok
end
end Go.Abs
