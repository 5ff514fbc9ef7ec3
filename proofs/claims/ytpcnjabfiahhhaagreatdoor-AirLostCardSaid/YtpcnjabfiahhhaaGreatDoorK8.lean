/- A part of the proof of RowAirFits, RowAirHeard, RowAirOrder, RowAirLost: lemmas alone, without conditions. -/
import Derived.Test.YtpcnjabfiahhhaaGreatDoorK7
set_option linter.all false
namespace Go.Abs
open Go.RowKit (Below)
set_option linter.unusedVariables false
set_option linter.unusedSimpArgs false
section
variable {P : Program} {lim : Option Nat} {B : Nat} {F : List Nat} {S : Nat → Nat → Prop} {bl : List Nat} {vals : List (V × Value)} {H : aB} {w : World}
theorem Quiet.good {r : V} {s : Sem Value} (h : St lim B F S bl vals H w) (q : Quiet P S bl w r s) : uY P lim B F S bl H w r H ((do pure (.value (← s)) : Sem Next).run P w) :=
 QuietK.good h q.k
theorem bB {x : Option V} {H' : aB} {r : V} (h : x.map (·, H) = some (r, H')) : x = some r ∧ H' = H := by
 cases x with
 | none => cases h
 | some y => cases h; exact ⟨rfl, rfl⟩
theorem wY {vs : List V} (h : vs.length = 1) : ∃ p, vs = [p] := by
 match vs, h with
 | [p], _ => exact ⟨p, rfl⟩
theorem wZ {vs : List V} (h : vs.length = 2) : ∃ p q, vs = [p, q] := by
 match vs, h with
 | [p, q], _ => exact ⟨p, q, rfl⟩
theorem aDj {op : BinOp} {neg : Bool} (h : (op == .eql && !neg || op == .neq && neg) = true) : op = .eql ∧ neg = false ∨ op = .neq ∧ neg = true := by
 cases neg <;> simpa using h
theorem xA {dst : Option Tmp} {b : Builtin} {args : Array Operand} {ats : Array TypeId} {ty : TypeId} {pos : String} {after : Array Edge} {guard : Option (Nat × Bool)} (ρ : Operand → Value) :
 (execOp ρ ⟨dst, .call ⟨.builtin b, args, ats⟩, ty, pos, after, guard⟩).run P w = (builtin b ats ty (args.map fun | .const _ => true | _ => false) (args.map ρ)).run P w := by
 simp only [execOp, resolve, Sem.run_bind, Sem.run_pure, Result.andThen_ok, invoke]
 rfl
theorem B7 {b : Builtin} {args : Array Operand} {ats : Array TypeId} : (Op.call ⟨.builtin b, args, ats⟩).operands = args := by
 simp [Op.operands, Call.operands]
theorem aPq {args : Array Operand} (h : args.size = 1) : ∃ a, args = #[a] := by
 obtain ⟨l⟩ := args
 match l, h with
 | [a], _ => exact ⟨a, rfl⟩
theorem aPr {args : Array Operand} (h : args.size = 2) : ∃ a b, args = #[a, b] := by
 obtain ⟨l⟩ := args
 match l, h with
 | [a, b], _ => exact ⟨a, b, rfl⟩
theorem W7 {ats : Array TypeId} {ty t u e sz bytes : Nat} {d : TypeDesc} {z : Value} {p q r : V} {a b : Value} (h : St lim B F S bl [(p, a), (q, b)] H w) (hB : B ≤ w.heap.size)
 (h0 : ats[0]? = some t) (h1 : ats[1]? = some u) (ht : P.underlying t = some (.slice e)) (hu : P.underlying u = some d) (hd : ∀ k, d ≠ .int k) (hsz : fP P e sz = true) (hby : lP P e bytes = true) (hpos : 0 < sz) (hbpos : 0 < bytes)
 (hz : (P.info? e).bind (·.zero) = some z) (hz2 : z.cells.size = sz) (hr : eQ sz bytes p q H = some r) :
 uY P lim B F S bl H w r H ((do pure (.value (← Builtin.append_ ats ty #[a, b])) : Sem Next).run P w) := by
 obtain ⟨i, hi, hz⟩ := Option.bind_eq_some_iff.1 hz
 obtain ⟨c, w', S', h2, h3, h4⟩ := aGj (ty := ty) h hB h0 h1 ht hu hd hsz hby hpos hbpos (fun w' => ⟨z, by simp [zeroValue, fJ hi, hz], hz2⟩) hr
 exact ⟨c, w', S', bl, .inl (by simp only [Sem.run_bind, h2, Result.andThen_ok, Sem.run_pure]), h3, h4⟩
theorem aMm {ats : Array TypeId} {ty t u e sz bytes : Nat} {d : TypeDesc} {z : Value} {p q r : V} {H' : aB} {a b : Value} (h : St lim B F S bl [(p, a), (q, b)] H w) (hB : B ≤ w.heap.size)
 (h0 : ats[0]? = some t) (h1 : ats[1]? = some u) (ht : P.underlying t = some (.slice e)) (hu : P.underlying u = some d) (hd : ∀ k, d ≠ .int k) (hsz : fP P e sz = true) (hby : lP P e bytes = true) (hpos : 0 < sz) (hbpos : 0 < bytes)
 (hz : (P.info? e).bind (·.zero) = some z) (hz2 : z.cells.size = sz) (hr : aNs lim sz bytes H [p, q] = some (r, H')) :
 uY P lim B F S bl H w r H' ((do pure (.value (← Builtin.append_ ats ty #[a, b])) : Sem Next).run P w) := by
 by_cases hv : ∃ id o n cs, p = .via id o n cs
 ·obtain ⟨id, o, n, cs, rfl⟩ := hv
  simp only [aNs] at hr
  split at hr
  ·rename_i hl
   simp only [Option.bind_eq_some_iff, Option.map_eq_some_iff] at hr
   obtain ⟨s, hs, y, hy, hr⟩ := hr
   cases hr
   have h1' := h.rep _ (List.mem_cons_self ..)
   simp only [Rep] at h1'
   obtain ⟨⟨bb, hb, hc⟩, _⟩ := h1'
   obtain ⟨g1, g2⟩ := (St.drop h).unflag hs hb hc hl
   obtain ⟨c, w', S', bl', e1, e2, e3⟩ := W7 (ty := ty) g1 hB h0 h1 ht hu hd hsz hby hpos hbpos hz hz2 hy
   exact ⟨c, w', S', bl', e1, e2, g2.trans e3⟩
  ·cases hr
 ·have : aNs lim sz bytes H [p, q] = (eQ sz bytes p q H).map (·, H) := by
   cases p <;> first | rfl | exact absurd ⟨_, _, _, _, rfl⟩ hv
  rw [this] at hr
  obtain ⟨hr, rfl⟩ := bB hr
  exact W7 h hB h0 h1 ht hu hd hsz hby hpos hbpos hz hz2 hr
theorem aMo {ats : Array TypeId} {ty t u e sz bytes : Nat} {d : TypeDesc} {z : Value} {p q r : V} {H' : aB} {a b : Value} (h : St lim B F S bl [(p, a), (q, b)] H w) (hB : B ≤ w.heap.size)
 (h0 : ats[0]? = some t) (h1 : ats[1]? = some u) (ht : P.underlying t = some (.slice e)) (hu : P.underlying u = some d) (hd : ∀ k, d ≠ .int k) (hsz : fP P e sz = true) (hby : lP P e bytes = true) (hpos : 0 < sz) (hbpos : 0 < bytes)
 (hz : (P.info? e).bind (·.zero) = some z) (hz2 : z.cells.size = sz) (hr : Z5 lim sz bytes H [p, q] = some (r, H')) :
 uY P lim B F S bl H w r H' ((do pure (.value (← Builtin.append_ ats ty #[a, b])) : Sem Next).run P w) := by
 obtain ⟨i, hi, hz⟩ := Option.bind_eq_some_iff.1 hz
 obtain ⟨c, w', S', bl', h2, h3, h4⟩ := aP4 (ty := ty) h hB h0 h1 ht hu hd hsz hby hpos hbpos (fun w' => ⟨z, by simp [zeroValue, fJ hi, hz], hz2⟩) hr
 exact ⟨c, w', S', bl', .inl (by simp only [Sem.run_bind, h2, Result.andThen_ok, Sem.run_pure]), h3, h4⟩
theorem aMp {ats : Array TypeId} {ty t e sz : Nat} {zero : List V} {p r : V} {H' : aB} {a : Value} (h : St lim B F S bl [(p, a)] H w)
 (h0 : ats[0]? = some t) (ht : P.underlying t = some (.slice e)) (hsz : fP P e sz = true) (hz : oI P e zero = true) (hzl : zero.length = sz) (hr : aG5 lim sz zero H [p] = some (r, H')) :
 uY P lim B F S bl H w r H' ((do pure (.value (← Builtin.clear_ ats ty #[a])) : Sem Next).run P w) := by
 have h1 : Rep S bl w p a := h.rep _ (List.mem_cons_self ..)
 have hr0 : ∀ {S' : Nat → Nat → Prop} {bl' : List Nat} {w' : World}, Rep S' bl' w' (.tup []) (.tuple #[]) := by simp only [Rep]; exact ⟨#[], rfl, by simp [RepL], by simp⟩
 have quiet : ∀ (x : Option Addr) (n c : Nat), a = .slice x n c → n = 0 → r = .tup [] → H' = H → uY P lim B F S bl H w r H' ((do pure (.value (← Builtin.clear_ ats ty #[a])) : Sem Next).run P w) := by
  rintro x n c rfl rfl rfl rfl
  refine ⟨.tuple #[], w, S, bl, .inl ?_, h.nil.add0 hr0 rfl, Ext.refl _ _ _ _ _ _ _⟩
  cases x <;> simp [Builtin.clear_, h0, aO ht]
 cases p <;> try (simp [aG5] at hr; done)
 ·rename_i own n cs
  cases n with
  | succ n => simp [aG5] at hr
  | zero =>
    simp only [aG5, Option.some.injEq, Prod.mk.injEq] at hr
    simp only [Rep] at h1
    obtain ⟨x, cap, rfl, _⟩ := h1
    exact quiet _ _ _ rfl rfl hr.1.symm hr.2.symm
 ·rename_i sz' id off n k
  simp only [aG5] at hr
  split at hr
  ·rename_i hc
   obtain ⟨rfl, hm⟩ := hc
   obtain ⟨cs, hH, hr⟩ := Option.bind_eq_some_iff.1 hr
   split at hr
   ·rename_i hlen
    cases hr
    simp only [Rep] at h1
    obtain ⟨bb, cap, hb, ⟨hnk, hkc⟩, rfl, hfit⟩ := h1
    obtain ⟨z, hz1, hz2⟩ := sO (w := w) hz
    obtain ⟨z3, z4⟩ := mZ (S := S) (bl := bl) (w := w) zero z.cells.toList hz2
    have hZ : z.cells.size = sz' := by rw [← Array.length_toList]; have := ((aK _ _).1 z3).1; omega
    have hrl : (kJ zero n).length = n * sz' := by rw [iC, hzl]
    by_cases hn : n = 0
    ·subst hn
     refine ⟨.tuple #[], w, S, bl, .inl ?_, ?_, ?_⟩
     ·simp [Builtin.clear_, h0, aO ht]
     ·have e : H.set id (fB cs off (kJ zero 0)) = H := by
       have : fB cs off (kJ zero 0) = cs := by simp [fB, kJ]
       rw [this]
       refine List.ext_getElem? fun j => ?_
       rw [List.getElem?_set]
       by_cases hj : id = j
       ·subst hj; rw [if_pos rfl, if_pos (List.getElem?_eq_some_iff.1 hH).1, hH]
       ·rw [if_neg hj]
      rw [e]; exact h.nil.add0 hr0 rfl
     ·have e : H.set id (fB cs off (kJ zero 0)) = H := by
       have : fB cs off (kJ zero 0) = cs := by simp [fB, kJ]
       rw [this]
       refine List.ext_getElem? fun j => ?_
       rw [List.getElem?_set]
       by_cases hj : id = j
       ·subst hj; rw [if_pos rfl, if_pos (List.getElem?_eq_some_iff.1 hH).1, hH]
       ·rw [if_neg hj]
      rw [e]; exact Ext.refl _ _ _ _ _ _ _
    ·have hpos : 0 < n * sz' → 0 < sz' := fun q => aBj q
     have er := yX (n := n) z3 hzl hpos
     have et := aBi (n := n) hz2 hzl
     have es : (Builtin.zeroCells z.cells n).toList = ((Array.range (n * sz')).map (z.cells[· % z.cells.size]!)).toList := by simp [Builtin.zeroCells, hZ]
     rw [← es] at er et
     obtain ⟨carr, el, lo, hi, q1, q2, q3⟩ := (h.obj id cs bb hH hb).ex
     have hlz : (Builtin.zeroCells z.cells n).toList.length = n * sz' := by rw [← ((aK _ _).1 er).1, hrl]
     obtain ⟨g1, g2⟩ := A9 (F := F) (vals := []) hb (kJ zero n) _ off H w cs (by rw [et]; simpa [aS] using h.nil) (fun p hp => by cases hp) hH (by omega) er (kN z4 n) (fun t ht => by rw [et] at ht; cases ht) (by cases lim <;> exact hm)
     refine ⟨.tuple #[], _, _, _, .inl ?_, g1.add0 hr0 rfl, g2⟩
     have hstore := eF P (b := bb) (o := off) (Builtin.zeroCells z.cells n).toList 0 w carr el lo hi q1 (by omega) (fun j hj hj' => q3 j hj') (er.oneCell (kN z4 n))
     rw [Nat.add_zero] at hstore
     obtain ⟨n, rfl⟩ : ∃ m, n = m + 1 := ⟨n - 1, by omega⟩
     simp only [Builtin.clear_, h0, List.getElem?_toArray, List.getElem?_cons_zero, Sem.run_bind, aO ht, Result.andThen_ok, hz1, hstore, Sem.run_pure]
   ·cases hr
  ·cases hr
 ·simp only [aG5, Option.some.injEq, Prod.mk.injEq] at hr
  simp only [Rep] at h1
  exact quiet _ _ _ h1 rfl hr.1.symm hr.2.symm
theorem aMq {ats : Array TypeId} {ty t e sz : Nat} {p q r : V} {H' : aB} {a b : Value} (h : St lim B F S bl [(p, a), (q, b)] H w) (h0 : ats[0]? = some t) (ht : P.underlying t = some (.slice e)) (hsz : fP P e sz = true) (hpos : 0 < sz) (hr : aNq lim sz H [p, q] = some (r, H')) :
 uY P lim B F S bl H w r H' ((do pure (.value (← Builtin.copy_ ats ty #[a, b])) : Sem Next).run P w) := by
 have h1 : Rep S bl w p a := h.rep _ (List.mem_cons_self ..)
 have h2 : Rep S bl w q b := h.rep (q, b) (by simp)
 cases p <;> try (simp [aNq] at hr; done)
 rename_i z id off n k
 simp only [aNq] at hr
 split at hr
 ·rename_i hc
  obtain ⟨rfl, hm, hq⟩ := hc
  obtain ⟨cs, hH, hr⟩ := Option.bind_eq_some_iff.1 hr
  obtain ⟨⟨m, us⟩, htl, hr⟩ := Option.bind_eq_some_iff.1 hr
  simp only at hr
  split at hr
  ·rename_i hlen
   cases hr
   obtain ⟨hum, husng, es, e1, e2, e3⟩ := aJ9 (P := P) (k := min m n) h h2 htl (Nat.min_le_left ..) (fun l hl => by subst hl; cases hq)
   have hue := ((aK _ es).1 e1).1
   have hle : min m n * z ≤ m * z := Nat.mul_le_mul_right _ (Nat.min_le_left ..)
   have hul : (us.take (min m n * z)).length = min m n * z := by rw [List.length_take]; omega
   simp only [Rep] at h1
   obtain ⟨bb, cap, hb, ⟨hnk, hkc⟩, rfl, hfit⟩ := h1
   obtain ⟨carr, el, lo, hi, q1, q2, q3⟩ := (h.obj id cs bb hH hb).ex
   have hsg' : ∀ v ∈ us.take (min m n * z), v.single = true := fun v hv => husng v (List.mem_of_mem_take hv)
   have hsg : ∀ v ∈ (us.take (min m n * z)).map V.dis1, v.single = true := fun v hv => by
    obtain ⟨u', hu', rfl⟩ := List.mem_map.1 hv; exact V.dis1_single (hsg' u' hu')
   obtain ⟨g1, g2⟩ := A9 (F := F) (vals := []) hb ((us.take (min m n * z)).map V.dis1) es off H w cs (by rw [fG]; simpa [aS] using h.nil) (fun p hp => by cases hp) hH (by simp only [List.length_map]; omega) e1.dis1 hsg (fun t ht => by rw [fG] at ht; cases ht) (by cases lim <;> exact hm)
   refine ⟨.int .i64 (min m n : Nat), _, _, _, .inl ?_, g1.add0 (fN ..) rfl, g2⟩
   have hstore := eF P (b := bb) (o := off) es 0 w carr el lo hi q1 (by omega) (fun j hj hj' => q3 j hj') (e1.oneCell hsg')
   rw [Nat.add_zero] at hstore
   simp only [Builtin.copy_, h0, List.getElem?_toArray, List.getElem?_cons_zero, List.getElem?_cons_succ, Sem.run_bind, aO ht, Result.andThen_ok, e2, bT hsz, e3, hstore, Sem.run_pure, goInt]
  ·cases hr
 ·cases hr
set_option maxHeartbeats 4000000 in
theorem L3 {dst : Option Tmp} {op : Op} {ty : TypeId} {pos : String} {after : Array Edge} {guard : Option (Nat × Bool)} {a : O} {vs : List V} {r : V} {H' : aB} (ρ : Operand → Value)
 (hok : okO P op a = true) (hl : vs.length = op.operands.toList.length) (h : St lim B F S bl (vs.zip (op.operands.toList.map ρ)) H w) (hB : B ≤ w.heap.size) (hr : apply lim a vs H = some (r, H')) :
 uY P lim B F S bl H w r H' ((execOp ρ ⟨dst, op, ty, pos, after, guard⟩).run P w) := by
 have hvs : RepL S bl w vs (op.operands.toList.map ρ) := by
  refine (aK _ _).2 ⟨by simp [hl], fun j v c hv hc => h.rep (v, c) ?_⟩
  exact List.mem_of_getElem? (i := j) (by rw [List.getElem?_zip_eq_some]; exact ⟨hv, hc⟩)
 rw [okO.eq_def] at hok
 split at hok
 ·
  simp only [Bool.and_eq_true, beq_iff_eq] at hok
  obtain ⟨rfl, _⟩ := hok
  obtain ⟨p, q, rfl⟩ := wZ hl
  obtain ⟨hr', rfl⟩ := bB (show (aUl _ [p, q]).map (·, H) = _ from hr)
  obtain ⟨_, _, e, h1, h2⟩ := rK (show RepL S bl w [p, q] [_, _] from hvs)
  cases e
  exact Quiet.good h (aYl h1 h2 hr')
 ·
  simp only [Bool.and_eq_true] at hok
  obtain ⟨ho, ht⟩ := hok
  split at ht
  ·rename_i hd
   obtain ⟨hr', rfl⟩ := bB (show (aNm _ vs).map (·, H) = _ from hr)
   exact Quiet.good h (aYm hvs (aDj ho) hd hr')
  ·cases ht
 ·
  simp only [Bool.and_eq_true] at hok
  obtain ⟨ho, ht⟩ := hok
  split at ht
  ·rename_i hd
   obtain ⟨hr', rfl⟩ := bB (show (aNn _ vs).map (·, H) = _ from hr)
   exact Quiet.good h (aYn hvs (aDj ho) hd hr')
  ·cases ht
 ·
  rename_i ts
  simp only [Bool.and_eq_true, List.all_eq_true] at hok
  obtain ⟨⟨ho, ht⟩, hts⟩ := hok
  split at ht
  ·rename_i hd
   obtain ⟨hr', rfl⟩ := bB (show (aNr _ _ vs).map (·, H) = _ from hr)
   refine Quiet.good h (aYp hvs (aDj ho) hd (fun u hu => ?_) hr')
   have := hts u hu
   split at this
   ·rename_i i hi
    simp only [Bool.and_eq_true] at this
    refine ⟨i, hi, this.1, ?_⟩
    have := this.2
    split at this
    ·exact ⟨_, by assumption⟩
    ·cases this
   ·cases this
  ·cases ht
 ·
  simp only [Bool.and_eq_true] at hok
  obtain ⟨⟨ho, ht⟩, hc⟩ := hok
  split at ht
  ·rename_i hd
   obtain ⟨hr', rfl⟩ := bB (show (aNo _ vs).map (·, H) = _ from hr)
   exact Quiet.good h (aYo hvs (aDj ho) hd hc hr')
  ·cases ht
 ·
  simp only [beq_iff_eq] at hok
  subst hok
  obtain ⟨p, rfl⟩ := wY hl
  obtain ⟨hr', rfl⟩ := bB (show (aUn _ [p]).map (·, H) = _ from hr)
  obtain ⟨_, e, h1⟩ := fZ (show RepL S bl w [p] [_] from hvs)
  cases e
  exact Quiet.good h (bB3 h1 hr')
 ·
  split at hok
  ·rename_i hs
   split at hok
   ·rename_i g hf
    simp only [Bool.and_eq_true, beq_iff_eq] at hok
    obtain ⟨ho, hi⟩ := hok
    split at hi
    ·rename_i i hi'
     obtain ⟨hr', rfl⟩ := bB (show (aFa _ vs).map (·, H) = _ from hr)
     exact Quiet.good h (bAt hvs hs hf ho hi' (by simpa using hi) hr')
    ·cases hi
   ·cases hok
  ·cases hok
 ·
  split at hok
  ·rename_i e ht
   obtain ⟨hr', rfl⟩ := bB (show (aIx _ vs).map (·, H) = _ from hr)
   exact Quiet.good h (bAu hvs ht hok hr')
  ·cases hok
 ·
  split at hok
  ·rename_i n e ht
   simp only [Bool.and_eq_true, beq_iff_eq] at hok
   obtain ⟨rfl, hz⟩ := hok
   obtain ⟨hr', rfl⟩ := bB (show (Z3 _ _ vs).map (·, H) = _ from hr)
   exact Quiet.good h (aWx hvs ht hz hr')
  ·cases hok
 ·
  rename_i t x
  obtain ⟨hr', rfl⟩ := bB (show (aLd H vs).map (·, H) = _ from hr)
  obtain ⟨d, hd, hag⟩ : ∃ d, P.underlying t = some d ∧ dQ P t = false := by
   cases hd : P.underlying t with
   | none => rw [hd] at hok; cases hok
   | some d => refine ⟨d, rfl, ?_⟩; unfold dQ; rw [hd] at hok ⊢; cases d <;> first | rfl | cases hok
  exact Quiet.good h (bAv h hvs hd hag hr')
 ·
  rename_i t x
  obtain ⟨hr', rfl⟩ := bB (show (aLv H vs).map (·, H) = _ from hr)
  obtain ⟨d, hd, hag⟩ : ∃ d, P.underlying t = some d ∧ dQ P t = false := by
   cases hd : P.underlying t with
   | none => rw [hd] at hok; cases hok
   | some d => refine ⟨d, rfl, ?_⟩; unfold dQ; rw [hd] at hok ⊢; cases d <;> first | rfl | cases hok
  exact Quiet.good h (bAw h hvs hd hag hr')
 ·
  simp only [Bool.and_eq_true] at hok
  obtain ⟨hr', rfl⟩ := bB (show (O8 _ H vs).map (·, H) = _ from hr)
  exact Quiet.good h (aWy h hvs hok.1 hok.2 hr')
 ·
  obtain ⟨p, q, rfl⟩ := wZ hl
  exact aQy h hok hr
 ·
  obtain ⟨p, q, rfl⟩ := wZ hl
  exact aO6 h hok hr
 ·
  rename_i x
  obtain ⟨hr', rfl⟩ := bB (show (aNc vs).map (·, H) = _ from hr)
  obtain ⟨ad, e1, e2, e3⟩ := bAx hvs hr'
  simp only [execOp, e1, Sem.run_pure]
  rw [e1] at e2 e3
  exact aNb h e2 e3
 ·
  obtain ⟨p, rfl⟩ := wY hl
  exact aL8 h hB hr
 ·
  obtain ⟨p, rfl⟩ := wY hl
  obtain ⟨hr', rfl⟩ := bB (show (aHd _ [p]).map (·, H) = _ from hr)
  exact aLa h hB hr'
 ·
  have : vs = [] := List.length_eq_zero_iff.1 hl
  subst this
  simp only [apply, List.isEmpty_nil, if_true] at hr
  cases hr
  exact aL9 h hB hok
 ·
  rename_i t ps z qs
  simp only [apply, Option.map_eq_some_iff] at hr
  obtain ⟨cs, hcs, e⟩ := hr
  cases e
  have e0 : (Op.build t ps).operands.toList.map ρ = (ps.toList.map fun p => (p.1, ρ p.2)).map (·.2) := by simp [Op.operands, Function.comp_def]
  have e1 : (ps.map fun p => (p.1, ρ p.2)) = (ps.toList.map fun p => (p.1, ρ p.2)).toArray := by apply Array.ext'; simp
  rw [e0] at h hvs
  simp only [Bool.and_eq_true] at hok
  obtain ⟨hz, hok⟩ := hok
  show uY P lim B F S bl H w _ H ((do pure (.value (← Instr.build t (ps.map fun p => (p.1, ρ p.2)))) : Sem Next).run P w)
  rw [e1]
  split at hok
  ·rename_i fs hfs
   simp only [Bool.and_eq_true, List.all_eq_true] at hok
   exact QuietK.good h (aSc h hvs hz hfs hok.1 (A6 ρ hok.2) hcs)
  ·rename_i n e he
   split at hok
   ·rename_i i hi
    simp only [Bool.and_eq_true, List.all_eq_true, beq_iff_eq] at hok
    refine QuietK.good h (aSd h hvs hz he hi ((wM ρ hok.1).trans ?_) hcs)
    congr 1
    rw [List.map_map]
    conv => rhs; rw [← List.map_id qs]
    refine List.map_congr_left fun q hq => ?_
    simp only [Function.comp, id]
    rw [← hok.2 q hq]
   ·cases hok
  ·cases hok
 ·
  rename_i t n ps sz z len offs
  simp only [apply] at hr
  split at hr
  ·rename_i hle
   obtain ⟨cs, hcs, e⟩ := Option.map_eq_some_iff.1 hr
   cases e
   have e0 : (Op.buildSlice t n ps).operands.toList.map ρ = (ps.toList.map fun p => (p.1, ρ p.2)).map (·.2) := by simp [Op.operands, Function.comp_def]
   have e1 : (ps.map fun p => (p.1, ρ p.2)) = (ps.toList.map fun p => (p.1, ρ p.2)).toArray := by apply Array.ext'; simp
   rw [e0] at h hvs
   simp only [Bool.and_eq_true, beq_iff_eq] at hok
   obtain ⟨rfl, hok⟩ := hok
   show uY P lim B F S bl H w _ H ((do pure (.value (← Instr.buildSlice t n (ps.map fun p => (p.1, ρ p.2)))) : Sem Next).run P w)
   rw [e1]
   split at hok
   ·rename_i e he
    simp only [Bool.and_eq_true] at hok
    obtain ⟨⟨h1, h2⟩, h3⟩ := hok
    exact aKy h hB hvs he h1 (by split at h2 <;> simp_all) (wM ρ h3) hle hcs
   ·cases hok
  ·cases hr
 ·
  obtain ⟨p, rfl⟩ := wY hl
  obtain ⟨hr', rfl⟩ := bB (show (aHe _ _ [p]).map (·, H) = _ from hr)
  split at hok
  ·rename_i fs hs
   split at hok
   ·rename_i g hf
    simp only [Bool.and_eq_true, beq_iff_eq] at hok
    obtain ⟨ho, hz⟩ := hok
    refine QuietK.good h (aX1 h hs hf ho ?_ hr')
    split at hz
    ·cases hd : P.underlying g.type with
     | none => rw [hd] at hz; cases hz
     | some d => refine ⟨⟨d, rfl⟩, ?_⟩; unfold dQ; rw [hd] at hz ⊢; cases d <;> first | rfl | cases hz
    ·simpa using hz
   ·cases hok
  ·cases hok
 ·
  obtain ⟨hr', rfl⟩ := bB (show (aHf vs).map (·, H) = _ from hr)
  split at hok
  ·rename_i ht
   exact Quiet.good h (aX3 hvs ht hr')
  ·cases hok
 ·
  obtain ⟨p, q, rfl⟩ := wZ hl
  obtain ⟨hr', rfl⟩ := bB (show (aHg _ _ _ [p, q]).map (·, H) = _ from hr)
  split at hok
  ·rename_i n e ht
   simp only [Bool.and_eq_true, beq_iff_eq] at hok
   obtain ⟨⟨rfl, hz⟩, ho⟩ := hok
   obtain ⟨d, hd, hag⟩ : ∃ d, P.underlying e = some d ∧ dQ P e = !‹Bool› := by
    unfold dQ; split at ho <;> simp_all
   exact QuietK.good h (aX2 h ht hz hd hag hr')
  ·cases hok
 ·
  rename_i t x lo hi sz l hh
  cases vs with
  | nil => simp [Op.operands] at hl
  | cons p bs =>
    obtain ⟨hr', rfl⟩ := bB (show (aHh _ _ _ (p :: bs)).map (·, H) = _ from hr)
    simp only [Bool.and_eq_true, beq_iff_eq] at hok
    obtain ⟨⟨h1, h2⟩, h3⟩ := hok
    split at h3
    ·rename_i e ht
     have e0 : (Op.slice t x lo hi none).operands.toList.map ρ = ρ x :: ((lo.map ρ).toList ++ (hi.map ρ).toList) := by
      cases lo <;> cases hi <;> rfl
     rw [e0] at h hvs
     simp only [RepL] at hvs
     obtain ⟨_, _, e, _, hvs⟩ := hvs
     cases e
     exact QuietK.good h (aX5 h hvs rfl ht h3 (by simpa using h1) (by simpa using h2) hr')
    ·cases h3
 ·
  rename_i t x lo hi mx sz
  obtain ⟨hr', rfl⟩ := bB (show (aDu _ vs).map (·, H) = _ from hr)
  split at hok
  ·rename_i e ht
   exact Quiet.good h (aX6 (show RepL S bl w vs [ρ x, ρ lo, ρ hi, ρ mx] from hvs) ht hok hr')
  ·cases hok
 ·
  rename_i t x lo hi l hh
  obtain ⟨hr', rfl⟩ := bB (show (aKk _ _ vs).map (·, H) = _ from hr)
  simp only [Bool.and_eq_true, beq_iff_eq] at hok
  obtain ⟨⟨h1, h2⟩, h3⟩ := hok
  split at h3
  ·rename_i ht
   have e0 : (Op.slice t x lo hi none).operands.toList.map ρ = ρ x :: ((lo.map ρ).toList ++ (hi.map ρ).toList) := by
    cases lo <;> cases hi <;> rfl
   rw [e0] at hvs
   exact Quiet.good h (aX4 hvs ht (by simpa using h1) (by simpa using h2) hr')
  ·cases h3
 ·
  rename_i call args argTypes sz bytes
  split at hok
  ·rename_i t u h0 h1
   split at hok
   ·rename_i e d ht hu
    simp only [Bool.and_eq_true, decide_eq_true_eq] at hok
    obtain ⟨⟨⟨⟨⟨hsz, hby⟩, hp⟩, hbp⟩, hnd⟩, hz⟩ := hok
    split at hz
    ·rename_i z hz'
     simp only [beq_iff_eq] at hz
     have hd : ∀ k, d ≠ .int k := by rintro k rfl; cases hnd
     match vs, hr with
     | [], hr => cases hr
     | [_], hr => cases hr
     | _ :: _ :: _ :: _, hr => cases hr
     | [p, q], hr =>
       rw [B7] at hl h hvs
       obtain ⟨a, b, hab⟩ := aPr (args := args) (by simpa using hl.symm)
       subst hab
       rw [xA]
       simp only [List.map_toArray, List.map_cons, List.map_nil, List.zip_cons_cons, List.zip_nil_left] at h ⊢
       exact (by
        obtain ⟨hr', rfl⟩ := bB (show (eQ _ _ p q H).map (·, H) = _ from hr)
        exact W7 h hB h0 h1 ht hu hd hsz hby hp hbp hz' hz hr')
    ·cases hz
   ·cases hok
  ·cases hok
 ·
  rename_i call args argTypes sz bytes
  split at hok
  ·rename_i t u h0 h1
   split at hok
   ·rename_i e d ht hu
    simp only [Bool.and_eq_true, decide_eq_true_eq] at hok
    obtain ⟨⟨⟨⟨⟨hsz, hby⟩, hp⟩, hbp⟩, hnd⟩, hz⟩ := hok
    split at hz
    ·rename_i z hz'
     simp only [beq_iff_eq] at hz
     have hd : ∀ k, d ≠ .int k := by rintro k rfl; cases hnd
     match vs, hr with
     | [], hr => cases hr
     | [_], hr => cases hr
     | _ :: _ :: _ :: _, hr => cases hr
     | [p, q], hr =>
       rw [B7] at hl h hvs
       obtain ⟨a, b, hab⟩ := aPr (args := args) (by simpa using hl.symm)
       subst hab
       rw [xA]
       simp only [List.map_toArray, List.map_cons, List.map_nil, List.zip_cons_cons, List.zip_nil_left] at h ⊢
       exact aMm h hB h0 h1 ht hu hd hsz hby hp hbp hz' hz hr
    ·cases hz
   ·cases hok
  ·cases hok
 ·
  rename_i call args argTypes sz bytes
  split at hok
  ·rename_i t u h0 h1
   split at hok
   ·rename_i e d ht hu
    simp only [Bool.and_eq_true, decide_eq_true_eq] at hok
    obtain ⟨⟨⟨⟨⟨hsz, hby⟩, hp⟩, hbp⟩, hnd⟩, hz⟩ := hok
    split at hz
    ·rename_i z hz'
     simp only [beq_iff_eq] at hz
     have hd : ∀ k, d ≠ .int k := by rintro k rfl; cases hnd
     match vs, hr with
     | [], hr => cases hr
     | [_], hr => simp [apply, Z5] at hr
     | _ :: _ :: _ :: _, hr => simp [apply, Z5] at hr
     | [p, q], hr =>
       rw [B7] at hl h hvs
       obtain ⟨a, b, hab⟩ := aPr (args := args) (by simpa using hl.symm)
       subst hab
       rw [xA]
       simp only [List.map_toArray, List.map_cons, List.map_nil, List.zip_cons_cons, List.zip_nil_left] at h ⊢
       exact aMo h hB h0 h1 ht hu hd hsz hby hp hbp hz' hz hr
    ·cases hz
   ·cases hok
  ·cases hok
 ·
  rename_i call args argTypes s
  simp only [Bool.and_eq_true, beq_iff_eq] at hok
  obtain ⟨hs1, hok⟩ := hok
  obtain ⟨a, rfl⟩ := aPq hs1
  rw [B7] at hl h hvs
  rw [xA]
  simp only [List.map_toArray, List.map_cons, List.map_nil] at h hvs ⊢
  obtain ⟨hr', rfl⟩ := bB (show (aHi s vs).map (·, H) = _ from hr)
  split at hok
  ·rename_i t h0
   split at hok
   ·rename_i ht
    subst hok
    exact Quiet.good h (aTf hvs h0 ht hr')
   ·rename_i e ht
    simp only [Bool.not_eq_true'] at hok
    subst hok
    exact Quiet.good h (aTg hvs h0 ht hr')
   ·cases hok
  ·cases hok
 ·
  rename_i call args argTypes v
  simp only [Bool.and_eq_true, beq_iff_eq] at hok
  obtain ⟨hs1, hok⟩ := hok
  obtain ⟨a, rfl⟩ := aPq hs1
  rw [B7] at hl h hvs
  rw [xA]
  simp only [List.map_toArray, List.map_cons, List.map_nil] at h hvs ⊢
  cases hr
  split at hok
  ·rename_i t h0
   split at hok
   ·rename_i n e ht
    refine Quiet.good h (s := Builtin.len_ argTypes ty #[ρ a]) ⟨goInt n, ?_, xK _ _ hok, C2 _ _ hok⟩
    simp only [Builtin.len_, h0, List.getElem?_toArray, List.getElem?_cons_zero, Sem.run_bind, aO ht, Result.andThen_ok, Sem.run_pure]
   ·rename_i e ht
    split at hok
    ·rename_i n e' he
     refine Quiet.good h (s := Builtin.len_ argTypes ty #[ρ a]) ⟨goInt n, ?_, xK _ _ hok, C2 _ _ hok⟩
     simp only [Builtin.len_, h0, List.getElem?_toArray, List.getElem?_cons_zero, Sem.run_bind, aO ht, aO he, Result.andThen_ok, Sem.run_pure]
    ·cases hok
   ·cases hok
  ·cases hok
 ·
  rename_i call args argTypes sz z
  simp only [Bool.and_eq_true, beq_iff_eq] at hok
  obtain ⟨hs1, hok⟩ := hok
  obtain ⟨a, rfl⟩ := aPq hs1
  rw [B7] at hl h hvs
  rw [xA]
  simp only [List.map_toArray, List.map_cons, List.map_nil] at h hvs ⊢
  split at hok
  ·rename_i t h0
   split at hok
   ·rename_i e ht
    simp only [Bool.and_eq_true, beq_iff_eq] at hok
    obtain ⟨⟨o1, o2⟩, o3⟩ := hok
    match vs, hl, hr, h with
    | [p], _, hr, h => exact aMp (by simpa using h) h0 ht o1 o2 o3 hr
   ·cases hok
  ·cases hok
 ·
  rename_i call args argTypes sz
  simp only [Bool.and_eq_true, beq_iff_eq] at hok
  obtain ⟨hs2, hok⟩ := hok
  obtain ⟨a, b, rfl⟩ := aPr hs2
  rw [B7] at hl h hvs
  rw [xA]
  simp only [List.map_toArray, List.map_cons, List.map_nil] at h hvs ⊢
  split at hok
  ·rename_i t h0
   split at hok
   ·rename_i e ht
    simp only [Bool.and_eq_true, decide_eq_true_eq] at hok
    obtain ⟨p, q, rfl⟩ := wZ hl
    exact aMq (by simpa using h) h0 ht hok.1 hok.2 hr
   ·cases hok
  ·cases hok
 ·
  rename_i call args argTypes
  rw [B7] at hl h hvs
  rw [xA]
  cases vs with
  | nil => cases hr
  | cons p vs =>
    obtain ⟨hr', rfl⟩ := bB (show (aMx (p :: vs)).map (·, H) = _ from hr)
    obtain ⟨l⟩ := args
    match l, hl, h, hvs with
    | [], hl, _, _ => simp at hl
    | x :: l, hl, h, hvs =>
      simp only [List.map_toArray, List.map_cons, List.zip_cons_cons] at h hvs ⊢
      simp only [RepL] at hvs
      obtain ⟨_, _, e, h1, h2⟩ := hvs
      cases e
      refine QuietK.good h (s := (l.map ρ).foldlM Builtin.max2 (ρ x)) ?_
      cases vs with
      | nil =>
        have : l = [] := by simpa using hl
        subst this
        simp only [aMx, mxn, Option.some.injEq] at hr'
        subst hr'
        exact ⟨ρ x, rfl, h1, fun t ht => (h.tip t (.inl (by simpa [aH] using ht))), fun y => by simp [aH]⟩
      | cons q vs =>
        exact Quiet.k (aM4 (fun k x j y => by simp only [Builtin.max2, Sem.run_pure]; congr 2; simp) h1 h2 (aIb hr' (by simp)) hr')
 ·
  rename_i call args argTypes
  rw [B7] at hl h hvs
  rw [xA]
  cases vs with
  | nil => cases hr
  | cons p vs =>
    obtain ⟨hr', rfl⟩ := bB (show (aMn (p :: vs)).map (·, H) = _ from hr)
    obtain ⟨l⟩ := args
    match l, hl, h, hvs with
    | [], hl, _, _ => simp at hl
    | x :: l, hl, h, hvs =>
      simp only [List.map_toArray, List.map_cons, List.zip_cons_cons] at h hvs ⊢
      simp only [RepL] at hvs
      obtain ⟨_, _, e, h1, h2⟩ := hvs
      cases e
      refine QuietK.good h (s := (l.map ρ).foldlM Builtin.min2 (ρ x)) ?_
      cases vs with
      | nil =>
        have : l = [] := by simpa using hl
        subst this
        simp only [aMn, mxn, Option.some.injEq] at hr'
        subst hr'
        exact ⟨ρ x, rfl, h1, fun t ht => (h.tip t (.inl (by simpa [aH] using ht))), fun y => by simp [aH]⟩
      | cons q vs =>
        exact Quiet.k (aM4 (fun k x j y => by simp only [Builtin.min2, Sem.run_pure]; congr 2; simp) h1 h2 (aIb hr' (by simp)) hr')
 ·
  obtain ⟨hr', rfl⟩ := bB (show (aNt _ vs).map (·, H) = _ from hr)
  split at hok
  ·rename_i j k' h1 h2
   simp only [beq_iff_eq] at hok
   subst hok
   exact Quiet.good h (aX7 hvs h1 h2 hr')
  ·cases hok
 ·
  obtain ⟨hr', rfl⟩ := bB (show (aNu vs).map (·, H) = _ from hr)
  split at hok
  ·rename_i h1 h2
   exact Quiet.good h (aX8 hvs h1 h2 hr')
  ·cases hok
 ·
  obtain ⟨hr', rfl⟩ := bB (show (aHj vs).map (·, H) = _ from hr)
  split at hok
  ·rename_i e h1 h2
   split at hok
   ·rename_i h3
    exact Quiet.good h (aX9 hvs h1 h3 h2 hr')
   ·cases hok
  ·cases hok
 ·
  obtain ⟨p, rfl⟩ := wY hl
  obtain ⟨hr', rfl⟩ := bB (show (aNv [p]).map (·, H) = _ from hr)
  split at hok
  ·rename_i e h1 h2
   split at hok
   ·rename_i h3
    exact aO7 h hB h1 h2 h3 hr'
   ·cases hok
  ·cases hok
 ·
  rename_i t x u
  simp only [Bool.and_eq_true, beq_iff_eq] at hok
  obtain ⟨rfl, ho⟩ := hok
  obtain ⟨p, rfl⟩ := wY hl
  obtain ⟨hr', rfl⟩ := bB (show (aNw _ [p]).map (·, H) = _ from hr)
  obtain ⟨_, e, h1⟩ := fZ (show RepL S bl w [p] [_] from hvs)
  cases e
  obtain ⟨d, hd, hag⟩ : ∃ d, P.underlying t = some d ∧ ∀ ms, d ≠ .interface ms := by
   cases hd : P.underlying t with
   | none => rw [hd] at ho; cases ho
   | some d => refine ⟨d, rfl, ?_⟩; rintro ms rfl; rw [hd] at ho; cases ho
  exact Quiet.good h (aXa h1 hd hag hr')
 ·
  rename_i x xt a ok t ok' z
  simp only [Bool.and_eq_true, beq_iff_eq] at hok
  obtain ⟨⟨⟨rfl, rfl⟩, hz⟩, ho⟩ := hok
  obtain ⟨hr', rfl⟩ := bB (show (aHk _ _ _ vs).map (·, H) = _ from hr)
  obtain ⟨d, hd, hag⟩ : ∃ d, P.underlying a = some d ∧ ∀ ms, d ≠ .interface ms := by
   cases hd : P.underlying a with
   | none => rw [hd] at ho; cases ho
   | some d => refine ⟨d, rfl, ?_⟩; rintro ms rfl; rw [hd] at ho; cases ho
  exact Quiet.good h (aXb hvs hd hag hz hr')
 ·
  rename_i x xt a ok ts ns ok'
  simp only [Bool.and_eq_true, beq_iff_eq] at hok
  obtain ⟨⟨rfl, hz⟩, ho⟩ := hok
  obtain ⟨hr', rfl⟩ := bB (show (aHl _ _ _ vs).map (·, H) = _ from hr)
  split at ho
  ·rename_i want hd
   simp only [Bool.and_eq_true, List.all_eq_true] at ho
   refine Quiet.good h (aXc hvs hd hz (fun u hu => ?_) (fun u hu => ?_) hr')
   ·have := ho.1 u (by simpa using hu)
    split at this
    ·rename_i i hi; exact ⟨i, hi, aJj this⟩
    ·cases this
   ·have := ho.2 u (by simpa using hu)
    split at this
    ·rename_i i hi; exact ⟨i, (aBv this).choose, hi, (aBv this).choose_spec⟩
    ·cases this
  ·cases ho
 ·
  simp only [beq_iff_eq] at hok
  subst hok
  obtain ⟨p, rfl⟩ := wY hl
  obtain ⟨hr', rfl⟩ := bB (show (aHm _ [p]).map (·, H) = _ from hr)
  exact QuietK.good h (aXd (vs := []) h hr')
 ·
  rename_i g' args ats rt gs g
  simp only [Bool.and_eq_true, beq_iff_eq] at hok
  obtain ⟨⟨⟨⟨rfl, h1⟩, h2⟩, h3⟩, h4⟩ := hok
  obtain ⟨x, rfl⟩ := aPq h1
  obtain ⟨hr', rfl⟩ := bB (show (aQp _ _ _ vs).map (·, H) = _ from hr)
  unfold aQp at hr'
  split at hr'
  ·rename_i f t v
   split at hr'
   ·rename_i hfg
    subst hfg
    cases hr'
    obtain ⟨_, _, e, k1, k2⟩ := rK (a := ρ (.func f)) (b := ρ x) (show RepL S bl w [.fn f [], .ifc t v] [ρ (.func f), ρ x] from hvs)
    cases e
    simp only [Rep] at k1 k2
    obtain ⟨cs, k1, k3⟩ := k1
    obtain ⟨u, k2, _⟩ := k2
    have hrep : Rep S bl w (.ifc rt (.agg [.raw gs t])) (.iface rt (.agg #[.pointer (some ⟨gs, t, none⟩)])) := by
     simp only [Rep, RepL]
     exact ⟨_, rfl, ⟨_, rfl, ⟨_, [], rfl, rfl, rfl⟩, by simp [V.single]⟩, rfl⟩
    have hcs : cs = #[] := by
     have : cs.toList = [] := by simpa [RepL] using k3.1
     exact Array.toList_eq_nil_iff.1 this
    have hrun : (execOp ρ ⟨dst, .call ⟨.value (.func f), #[x], ats⟩, ty, pos, after, guard⟩).run P w = .ok (.value (.iface rt (.agg #[.pointer (some ⟨gs, t, none⟩)]))) w := by
     have e1 := aEx (P := P) h2 (fun fn hfn => aEw hfn) (by decide) #[.iface t u] w
     rw [aP8 h3 h4] at e1
     simp only [execOp, resolve, Sem.run_bind, Sem.run_pure, k1, hcs, Deferred.ofValue, Result.andThen_ok, invoke, List.map_toArray, List.map_cons, List.map_nil, k2]
     exact e1
    rw [hrun]
    exact aNb h hrep rfl
   ·cases hr'
  ·cases hr'
 ·
  rename_i y name args ats rt gs g ts
  simp only [Bool.and_eq_true, beq_iff_eq, List.all_eq_true] at hok
  obtain ⟨⟨⟨⟨⟨h1, rfl⟩, h2⟩, h3⟩, h4⟩, h5⟩ := hok
  have ha : args = #[] := Array.eq_empty_of_size_eq_zero h1
  subst ha
  obtain ⟨hr', rfl⟩ := bB (show (aQq _ _ _ vs).map (·, H) = _ from hr)
  unfold aQq at hr'
  split at hr'
  ·rename_i u b t
   split at hr'
   ·rename_i hc
    obtain ⟨rfl, rfl, hts⟩ := hc
    cases hr'
    obtain ⟨_, e, k1⟩ := fZ (a := ρ y) (show RepL S bl w [.ifc u (.agg [.raw b t])] [ρ y] from hvs)
    cases e
    simp only [Rep, RepL] at k1
    obtain ⟨c, k1, ⟨arr, rfl, ⟨_, _, k2, rfl, rfl⟩, _⟩, _⟩ := k1
    have harr : arr = #[.pointer (some ⟨b, t, none⟩)] := by rw [← Array.toArray_toList (xs := arr), k2]
    subst harr
    rw [aLq h2 h3 h4 (by simp only [Bool.and_eq_true]; exact h5 t (by simpa using hts)) k1]
    exact aNb h (fY ..) rfl
   ·cases hr'
  ·cases hr'
 ·
  rename_i f first caps g
  simp only [Bool.and_eq_true, beq_iff_eq, List.isEmpty_iff] at hok
  obtain ⟨rfl, hf⟩ := hok
  have : first = #[] := by cases first; simp_all
  subst this
  simp only [apply] at hr
  split at hr
  ·rename_i hs
   cases hr
   have e0 : (Op.makeFunc (.func f) #[] caps).operands.toList.map ρ = (caps.map ρ).toList := by simp [Op.operands]
   rw [e0] at hvs
   exact Quiet.good h (s := Instr.makeFunc (.func f) ((#[] : Array Operand).map ρ) (caps.map ρ)) (by simpa using aXe hvs hs)
  ·cases hr
 ·
  obtain ⟨p, q, rfl⟩ := wZ hl
  split at hok
  ·rename_i e ht
   simp only [Bool.and_eq_true, beq_iff_eq, decide_eq_true_eq] at hok
   obtain ⟨⟨⟨⟨h1, h2⟩, h3⟩, h4⟩, h5⟩ := hok
   exact aKz h hB ht h1 h2 h3 h4 h5 hr
  ·cases hok
 ·
  obtain ⟨p, q, rfl⟩ := wZ hl
  split at hok
  ·rename_i e ht
   simp only [Bool.and_eq_true, beq_iff_eq, decide_eq_true_eq] at hok
   obtain ⟨⟨⟨⟨h1, h2⟩, h3⟩, h4⟩, h5⟩ := hok
   have hr : (aDv _ _ _ [p, q]).map (·, H) = some (r, H') := hr
   obtain ⟨u, hu, e⟩ := Option.map_eq_some_iff.1 hr
   cases e
   exact aL0 h hB ht h1 h2 h3 h4 h5 hu
  ·cases hok
 ·cases hok
end
end Go.Abs
