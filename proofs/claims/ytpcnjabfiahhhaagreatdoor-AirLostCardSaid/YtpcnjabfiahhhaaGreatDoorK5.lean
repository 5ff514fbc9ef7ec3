/- A part of the proof of RowAirFits, RowAirHeard, RowAirOrder, RowAirLost: lemmas alone, without conditions. -/
import Derived.Test.YtpcnjabfiahhhaaGreatDoorK4
set_option linter.all false
namespace Go.Abs
open Go.RowKit (Below)
set_option linter.unusedVariables false
set_option linter.unusedSimpArgs false
section
variable {P : Program} {lim : Option Nat} {B : Nat} {F : List Nat} {S : Nat → Nat → Prop} {bl : List Nat} {vals : List (V × Value)} {H : aB} {w : World}
theorem RepL.get {vs : List V} {cs : List Value} (h : RepL S bl w vs cs) {i : Nat} {v : V} (hv : vs[i]? = some v) : ∃ c, cs[i]? = some c ∧ Rep S bl w v c := by
 obtain ⟨h1, h2⟩ := (aK vs cs).1 h
 obtain ⟨hi, _⟩ := List.getElem?_eq_some_iff.1 hv
 exact ⟨_, List.getElem?_eq_getElem (by omega), h2 i v _ hv (List.getElem?_eq_getElem (by omega))⟩
theorem RepL.piece {vs : List V} {cs : List Value} (h : RepL S bl w vs cs) (i n : Nat) : RepL S bl w ((vs.drop i).take n) ((cs.drop i).take n) := by
 obtain ⟨h1, h2⟩ := (aK vs cs).1 h
 refine (aK _ _).2 ⟨by simp [h1], fun j v c hv hc => ?_⟩
 rw [List.getElem?_take] at hv hc
 split at hv
 ·rw [if_pos ‹_›, List.getElem?_drop] at hc
  rw [List.getElem?_drop] at hv
  exact h2 _ v c hv hc
 ·cases hv
theorem eU : ∀ {vs us : List V} {cs ds : List Value}, vs.length = cs.length → aT (vs ++ us) (cs ++ ds) = aT vs cs ++ aT us ds
 | [], _, [], _, _ => rfl
 | [], _, _ :: _, _, h => by simp at h
 | _ :: _, _, [], _, h => by simp at h
 | v :: vs, us, c :: cs, ds, h => by simp only [List.cons_append, aT, eU (vs := vs) (cs := cs) (by simpa using h), List.append_assoc]
theorem H7 : ∀ {vs : List V} {cs : List Value} {i : Nat} {v : V} {c : Value}, vs[i]? = some v → cs[i]? = some c → (∀ t ∈ bP v c, t ∈ aT vs cs) ∧ ∀ x, (aS (bP v c)).count x ≤ (aS (aT vs cs)).count x
 | [], _, _, _, _, h, _ => by simp at h
 | _ :: _, [], _, _, _, _, h => by simp at h
 | u :: vs, d :: cs, 0, v, c, h, k => by
   simp at h k; subst h; subst k
   exact ⟨fun t ht => List.mem_append_left _ ht, fun x => by simp only [aT, aS, List.map_append, List.count_append]; omega⟩
 | u :: vs, d :: cs, i + 1, v, c, h, k => by
   obtain ⟨a1, a2⟩ := H7 (vs := vs) (cs := cs) (i := i) (v := v) (c := c) (by simpa using h) (by simpa using k)
   exact ⟨fun t ht => List.mem_append_right _ (a1 t ht), fun x => by have := a2 x; simp only [aT, aS, List.map_append, List.count_append] at this ⊢; omega⟩
theorem aF5 {vs : List V} {cs : List Value} (hl : vs.length = cs.length) (i n : Nat) : (∀ t ∈ aT ((vs.drop i).take n) ((cs.drop i).take n), t ∈ aT vs cs) ∧ ∀ x, (aS (aT ((vs.drop i).take n) ((cs.drop i).take n))).count x ≤ (aS (aT vs cs)).count x := by
 have e : aT vs cs = aT (vs.take i) (cs.take i) ++ (aT ((vs.drop i).take n) ((cs.drop i).take n) ++ aT ((vs.drop i).drop n) ((cs.drop i).drop n)) := by
  rw [← eU (by simp [hl]), ← eU (by simp [hl]), List.take_append_drop, List.take_append_drop, List.take_append_drop, List.take_append_drop]
 rw [e]
 exact ⟨fun t ht => by simp [ht], fun x => by simp only [aS, List.map_append, List.count_append]; omega⟩
theorem bAx {vs : List V} {r : V} {a : Value} (hvs : RepL S bl w vs [a]) (h : aNc vs = some r) : ∃ ad : Addr, a = .pointer (some ad) ∧ Rep S bl w r a ∧ cJ r a = [] := by
 obtain ⟨p, rfl, h1⟩ := fZ hvs
 cases p <;> simp only [aNc] at h <;> cases h
 ·obtain ⟨b, hb, rfl⟩ := h1.ptr_inv; exact ⟨_, rfl, h1, rfl⟩
 ·obtain ⟨b, o, rfl, _⟩ := h1.fp_inv; exact ⟨_, rfl, h1, rfl⟩
theorem aC1 {t : TypeId} {d : TypeDesc} (ht : P.underlying t = some d) (hd : dQ P t = false) {cs : Array Value} {o : Nat} {c : Value} (hc : cs[o]? = some c) : (part t cs o).run P w = .ok c w := by
 simp only [part, Sem.run_bind, rW ht, hd, Result.andThen_ok, Sem.run_ite, Bool.false_eq_true, if_false, hc, Sem.run_pure]
theorem aC2 {t : TypeId} {n : Nat} (ht : dQ P t = true) (hz : fP P t n = true) {cs : Array Value} {o : Nat} : (part t cs o).run P w = .ok (.agg (cs.extract o (o + n))) w := by
 have hu : ∃ d, P.underlying t = some d := by
  unfold dQ at ht
  cases hu : P.underlying t with
  | none => rw [hu] at ht; cases ht
  | some d => exact ⟨d, rfl⟩
 obtain ⟨d, hu⟩ := hu
 simp only [part, Sem.run_bind, rW hu, ht, Result.andThen_ok, Sem.run_ite, if_true, bT hz, Sem.run_pure]
theorem zJ (a : Array Value) (o n : Nat) : (a.extract o (o + n)).toList = (a.toList.drop o).take n := by
 simp [Array.toList_extract, List.extract]
theorem aRj {cs : List V} {a : Array Value} (h : RepL S bl w cs a.toList) (hs : ∀ v ∈ cs, v.single = true) (hv : ∀ t ∈ aH vals, TipOK S w t ∧ B ≤ t.blk) (ht : ∀ t ∈ aT cs a.toList, t ∈ aH vals) (hc : ∀ x, (aS (aT cs a.toList)).count x ≤ (aS (aH vals)).count x)
 (o n : Nat) (hle : o + n ≤ cs.length) : Rep S bl w (.agg ((cs.drop o).take n)) (.agg (a.extract o (o + n))) ∧ (∀ t ∈ cJ (.agg ((cs.drop o).take n)) (.agg (a.extract o (o + n))), TipOK S w t ∧ B ≤ t.blk) ∧ ∀ x, (aS (cJ (.agg ((cs.drop o).take n)) (.agg (a.extract o (o + n))))).count x ≤ (aS (aH vals)).count x := by
 have hl := ((aK _ _).1 h).1
 have e : cJ (.agg ((cs.drop o).take n)) (.agg (a.extract o (o + n))) = aT ((cs.drop o).take n) ((a.toList.drop o).take n) := by
  show aT _ (a.extract o (o + n)).toList = _
  rw [zJ]
 obtain ⟨b1, b2⟩ := aF5 hl o n
 refine ⟨?_, by rw [e]; exact fun t k => hv t (ht t (b1 t k)), by rw [e]; exact fun x => Nat.le_trans (b2 x) (hc x)⟩
 simp only [Rep]
 exact ⟨_, rfl, by rw [zJ]; exact h.piece o n, fun v hv => hs v (List.mem_of_mem_drop (List.mem_of_mem_take hv))⟩
theorem aM3 {cs : List V} {a : Array Value} (h : RepL S bl w cs a.toList) (hs : ∀ v ∈ cs, v.single = true) (hv : ∀ t ∈ aH vals, TipOK S w t ∧ B ≤ t.blk) (ht : ∀ t ∈ aT cs a.toList, t ∈ aH vals) (hc : ∀ x, (aS (aT cs a.toList)).count x ≤ (aS (aH vals)).count x)
 {o : Nat} {v : V} (ho : cs[o]? = some v) : ∃ c, a[o]? = some c ∧ Rep S bl w v c ∧ (∀ t ∈ cJ v c, TipOK S w t ∧ B ≤ t.blk) ∧ ∀ x, (aS (cJ v c)).count x ≤ (aS (aH vals)).count x := by
 obtain ⟨c, h1, h2⟩ := h.get ho
 have e : cJ v c = bP v c := fV (.inr trivial) (.inl (hs v (List.mem_of_getElem? ho)))
 obtain ⟨b1, b2⟩ := H7 ho h1
 rw [Array.getElem?_toList] at h1
 exact ⟨c, h1, h2, by rw [e]; exact fun t k => hv t (ht t (b1 t k)), by rw [e]; exact fun x => Nat.le_trans (b2 x) (hc x)⟩
theorem oL {ad : Addr} : (loadCells ad 0).run P w = .ok #[] w := by
 unfold loadCells loadCellsFrom; simp
theorem aF6 {x : Option V} {r : V} (h : x.bind V.ntup = some r) : x = some r := by
 obtain ⟨u, hu, h⟩ := Option.bind_eq_some_iff.1 h
 cases u <;> first | (cases h; exact hu) | cases h
theorem pT (cs : List V) (a : Array Value) : aH [(V.agg cs, Value.agg a)] = aT cs a.toList := by simp [aH, cJ, cU]
theorem aX1 {t f off : Nat} {sz : Option Nat} {fs : Array Field} {g : Field} {p : V} {r : V} {a : Value} (h : St lim B F S bl [(p, a)] H w) (ht : P.underlying t = some (.struct fs)) (hf : fs[f]? = some g) (ho : g.offset = off)
 (hz : match sz with | none => (∃ d, P.underlying g.type = some d) ∧ dQ P g.type = false | some n => dQ P g.type = true ∧ fP P g.type n = true) (hr : aHe off sz [p] = some r) : QuietK P B S bl w [(p, a)] r (Instr.field t a f) := by
 have h1 := h.rep _ (List.mem_cons_self ..)
 cases p <;> try (simp [aHe] at hr; done)
 rename_i cs
 obtain ⟨arr, rfl, h2, h3⟩ := h1.agg_inv
 have hv : ∀ t ∈ aH [(V.agg cs, Value.agg arr)], TipOK S w t ∧ B ≤ t.blk := fun t k => h.tip t (.inl k)
 have run : ∀ c, (part g.type arr off).run P w = .ok c w → (Instr.field t (.agg arr) f).run P w = .ok c w := by
  intro c hc
  simp only [Instr.field, Sem.run_bind, aO ht, Result.andThen_ok, hf, asAgg, Sem.run_pure, ho, hc]
 cases sz with
 | none =>
   simp only [aHe] at hr
   obtain ⟨⟨d, hd⟩, hag⟩ := hz
   have hr := aF6 hr
   obtain ⟨c, b1, b2, b3, b4⟩ := aM3 h2 h3 hv (by rw [pT]; exact fun _ k => k) (by rw [pT]; exact fun _ => Nat.le_refl _) hr
   exact ⟨c, run _ (aC1 hd hag b1), b2, b3, b4⟩
 | some n =>
   simp only [aHe] at hr
   split at hr
   ·rename_i hle
    cases hr
    obtain ⟨b1, b2, b3⟩ := aRj h2 h3 hv (by rw [pT]; exact fun _ k => k) (by rw [pT]; exact fun _ => Nat.le_refl _) off n hle
    exact ⟨_, run _ (aC2 hz.1 hz.2), b1, b2, b3⟩
   ·cases hr
theorem aX2 {t e sz len : Nat} {one : Bool} {d : TypeDesc} {p q : V} {r : V} {a b : Value} (h : St lim B F S bl [(p, a), (q, b)] H w) (ht : P.underlying t = some (.array len e)) (hz : fP P e sz = true)
 (he : P.underlying e = some d) (hag : dQ P e = !one) (hr : aHg sz one len [p, q] = some r) : QuietK P B S bl w [(p, a), (q, b)] r (Instr.index t a b) := by
 have h1 := h.rep _ (List.mem_cons_self ..)
 have h1' := h.rep (q, b) (by simp)
 cases p <;> try (simp [aHg] at hr; done)
 rename_i cs
 cases q <;> try (simp [aHg] at hr; done)
 rename_i k i
 obtain ⟨arr, rfl, h2, h3⟩ := h1.agg_inv
 obtain rfl := Rep.int_inv h1'
 have hv : ∀ t ∈ aH [(V.agg cs, Value.agg arr), (V.int k i, Value.int k i)], TipOK S w t ∧ B ≤ t.blk := fun t k => h.tip t (.inl k)
 have e1 : aH [(V.agg cs, Value.agg arr), (V.int k i, Value.int k i)] = aT cs arr.toList := by simp [aH, cJ, cU, bP]
 simp only [aHg] at hr
 split at hr
 ·rename_i hi
  have run : ∀ c, (part e arr (i.toNat * sz)).run P w = .ok c w → (Instr.index t (.agg arr) (.int k i)).run P w = .ok c w := by
   intro c hc
   simp only [Instr.index, asIntOf, Sem.run_bind, Sem.run_pure, Result.andThen_ok, aO ht, Sem.run_ite, if_pos hi, bT hz, hc]
  cases one with
  | true =>
    simp only [if_true] at hr
    have hr := aF6 hr
    obtain ⟨c, b1, b2, b3, b4⟩ := aM3 h2 h3 hv (by rw [e1]; exact fun _ k => k) (by rw [e1]; exact fun _ => Nat.le_refl _) hr
    exact ⟨c, run _ (aC1 he (by simpa using hag) b1), b2, b3, b4⟩
  | false =>
    simp only [Bool.false_eq_true, if_false] at hr
    split at hr
    ·rename_i hle
     cases hr
     obtain ⟨b1, b2, b3⟩ := aRj h2 h3 hv (by rw [e1]; exact fun _ k => k) (by rw [e1]; exact fun _ => Nat.le_refl _) _ sz hle
     exact ⟨_, run _ (aC2 (by simpa using hag) hz), b1, b2, b3⟩
    ·cases hr
 ·cases hr
theorem aX3 {t : TypeId} {vs : List V} {r : V} {a b : Value} (hvs : RepL S bl w vs [a, b]) (ht : P.underlying t = some .string) (h : aHf vs = some r) : Quiet P S bl w r (Instr.index t a b) := by
 obtain ⟨p, q, rfl, h1, h2⟩ := rK hvs
 cases p <;> try (simp [aHf] at h; done)
 rename_i s
 cases q <;> try (simp [aHf] at h; done)
 rename_i k i
 simp only [aHf] at h
 split at h
 ·rename_i hi
  obtain ⟨c, hc, rfl⟩ := Option.map_eq_some_iff.1 h
  obtain rfl := h1.str_inv
  obtain rfl := h2.int_inv
  refine ⟨.int .u8 c.toNat, ?_, fN .., rfl⟩
  have hg : (⟨s.toArray⟩ : ByteArray)[i.toNat]? = some c := by
   obtain ⟨hl, hc'⟩ := List.getElem?_eq_some_iff.1 hc
   rw [getElem?_pos _ _ (by simpa [ByteArray.size] using hl)]
   simp only [Option.some.injEq]
   rw [← hc']
   rfl
  simp only [Instr.index, asIntOf, Sem.run_bind, Sem.run_pure, Result.andThen_ok, aO ht, if_pos hi, hg]
 ·cases h
theorem aTf {t : TypeId} {vs : List V} {r : V} {a : Value} {ty : TypeId} {ats : Array TypeId} (hvs : RepL S bl w vs [a]) (hat : ats[0]? = some t) (ht : P.underlying t = some .string) (h : aHi true vs = some r) : Quiet P S bl w r (Builtin.len_ ats ty #[a]) := by
 obtain ⟨p, rfl, h1⟩ := fZ hvs
 cases p <;> simp only [aHi] at h <;> cases h
 obtain rfl := h1.str_inv
 refine ⟨_, ?_, fN .., rfl⟩
 simp only [Builtin.len_, hat, Sem.run_bind, aO ht, Result.andThen_ok, goInt, Sem.run_pure, List.getElem?_toArray, List.getElem?_cons_zero]
 simp [ByteArray.size]
theorem aTg {t e : TypeId} {vs : List V} {r : V} {a : Value} {ty : TypeId} {ats : Array TypeId} (hvs : RepL S bl w vs [a]) (hat : ats[0]? = some t) (ht : P.underlying t = some (.slice e)) (h : aHi false vs = some r) : Quiet P S bl w r (Builtin.len_ ats ty #[a]) := by
 obtain ⟨p, rfl, h1⟩ := fZ hvs
 cases p <;> simp only [aHi] at h <;> cases h
 ·simp only [Rep] at h1
  obtain ⟨ad, cap, rfl, _⟩ := h1
  refine ⟨_, ?_, fN .., rfl⟩
  simp [Builtin.len_, hat, aO ht, goInt]
 ·simp only [Rep] at h1
  obtain ⟨b, cap, _, _, rfl, _⟩ := h1
  refine ⟨_, ?_, fN .., rfl⟩
  simp [Builtin.len_, hat, aO ht, goInt]
 ·simp only [Rep] at h1
  subst h1
  refine ⟨_, ?_, fN .., rfl⟩
  simp [Builtin.len_, hat, aO ht, goInt]
theorem pI {k : IntKind} {i : Int} {n : Nat} {code : BoundsCode} (h : 0 ≤ i ∧ i ≤ (n : Int)) : (Instr.sliceBound (.int k i) n code).run P w = .ok i.toNat w := by
 simp only [Instr.sliceBound, asIntOf, Sem.run_bind, Sem.run_pure, Result.andThen_ok, Sem.run_ite, if_pos h]
theorem aF7 {lo hi : Bool} {q n cap l h : Nat} {bs : List V} {olo ohi : Option Value} {sl : Bool} (hc : qH lo hi q bs = some (l, h)) (hq : hi = false → q = n) (hl : lo = olo.isSome) (hh : hi = ohi.isSome) (hbs : RepL S bl w bs (olo.toList ++ ohi.toList)) (hcap : q ≤ cap) :
 l ≤ h ∧ h ≤ q ∧ (Instr.sliceBounds sl n cap olo ohi none).run P w = .ok (l, h, cap) w := by
 cases olo with
 | none =>
   cases ohi with
   | none =>
     subst hl; subst hh
     obtain rfl := hq rfl
     simp only [Option.toList_none, List.append_nil, RepL] at hbs
     have : bs = [] := by cases bs <;> simp_all [RepL]
     subst this
     simp only [qH, Option.isSome_none, Option.some.injEq, Prod.mk.injEq] at hc
     obtain ⟨rfl, rfl⟩ := hc
     exact ⟨Nat.zero_le _, Nat.le_refl _, by simp [Instr.sliceBounds]⟩
   | some hv =>
     subst hl; subst hh
     simp only [Option.toList_none, Option.toList_some, List.nil_append] at hbs
     obtain ⟨p, rfl, h1⟩ := fZ hbs
     cases p <;> try (simp [qH] at hc; done)
     rename_i k i
     simp only [qH, Option.isSome_none, Option.isSome_some] at hc
     split at hc
     ·rename_i hi
      simp only [Option.some.injEq, Prod.mk.injEq] at hc
      obtain ⟨rfl, rfl⟩ := hc
      obtain rfl := h1.int_inv
      refine ⟨Nat.zero_le _, by omega, ?_⟩
      simp only [Instr.sliceBounds, Sem.run_bind, Sem.run_pure, Result.andThen_ok, pI (P := P) (w := w) (k := k) (i := i) (n := cap) (by omega)]
     ·cases hc
 | some lv =>
   cases ohi with
   | none =>
     subst hl; subst hh
     obtain rfl := hq rfl
     simp only [Option.toList_none, Option.toList_some, List.append_nil] at hbs
     obtain ⟨p, rfl, h1⟩ := fZ hbs
     cases p <;> try (simp [qH] at hc; done)
     rename_i k i
     simp only [qH, Option.isSome_none, Option.isSome_some] at hc
     split at hc
     ·rename_i hi
      simp only [Option.some.injEq, Prod.mk.injEq] at hc
      obtain ⟨rfl, rfl⟩ := hc
      obtain rfl := h1.int_inv
      refine ⟨by omega, Nat.le_refl _, ?_⟩
      simp only [Instr.sliceBounds, Sem.run_bind, Sem.run_pure, Result.andThen_ok, pI (P := P) (w := w) (k := k) (i := i) (n := q) (by omega)]
     ·cases hc
   | some hv =>
     subst hl; subst hh
     simp only [Option.toList_some, List.singleton_append] at hbs
     obtain ⟨p, q, rfl, h1, h2⟩ := rK hbs
     cases p <;> try (simp [qH] at hc; done)
     rename_i k i
     cases q <;> try (simp [qH] at hc; done)
     rename_i k' i'
     simp only [qH, Option.isSome_some] at hc
     split at hc
     ·rename_i hi
      simp only [Option.some.injEq, Prod.mk.injEq] at hc
      obtain ⟨rfl, rfl⟩ := hc
      obtain rfl := h1.int_inv
      obtain rfl := h2.int_inv
      refine ⟨by omega, by omega, ?_⟩
      simp only [Instr.sliceBounds, Sem.run_bind, Sem.run_pure, Result.andThen_ok, pI (P := P) (w := w) (k := k') (i := i') (n := cap) (by omega), pI (P := P) (w := w) (k := k) (i := i) (n := i'.toNat) (by omega)]
     ·cases hc
theorem aIa {lo hi : Bool} {n cap l h : Nat} {bs : List V} {olo ohi : Option Value} {sl : Bool} (hc : qH lo hi n bs = some (l, h)) (hl : lo = olo.isSome) (hh : hi = ohi.isSome) (hbs : RepL S bl w bs (olo.toList ++ ohi.toList)) (hcap : n ≤ cap) :
 l ≤ h ∧ h ≤ n ∧ (Instr.sliceBounds sl n cap olo ohi none).run P w = .ok (l, h, cap) w := aF7 hc (fun _ => rfl) hl hh hbs hcap
theorem aX4 {t : TypeId} {lo hi : Bool} {vs : List V} {r : V} {a : Value} {olo ohi : Option Value} (hvs : RepL S bl w vs (a :: (olo.toList ++ ohi.toList))) (ht : P.underlying t = some .string) (hl : lo = olo.isSome) (hh : hi = ohi.isSome) (h : aKk lo hi vs = some r) :
 Quiet P S bl w r (Instr.sliceAt t a olo ohi none) := by
 cases vs with
 | nil => simp [RepL] at hvs
 | cons p bs =>
   simp only [RepL] at hvs
   obtain ⟨c, rest, e, h1, h2⟩ := hvs
   simp only [List.cons.injEq] at e
   obtain ⟨rfl, rfl⟩ := e
   cases p <;> try (simp [aKk] at h; done)
   rename_i s
   simp only [aKk, Option.map_eq_some_iff] at h
   obtain ⟨⟨l, hgh⟩, hc, rfl⟩ := h
   obtain rfl := h1.str_inv
   obtain ⟨c1, c2, c3⟩ := aIa (P := P) (sl := false) (cap := s.length) hc hl hh h2 (Nat.le_refl _)
   refine ⟨.string ((⟨s.toArray⟩ : ByteArray).extract l hgh), ?_, ?_, rfl⟩
   ·simp only [Instr.sliceAt, Sem.run_bind, aO ht, Result.andThen_ok, Instr.slice, Option.isSome_none, Bool.false_eq_true, Sem.run_ite, if_false]
    have : (⟨s.toArray⟩ : ByteArray).size = s.length := by simp [ByteArray.size]
    rw [this, c3]
    simp
   ·simp only [Rep]
    exact ⟨_, rfl, by simp [List.extract]⟩
theorem aX5 {t e sz : Nat} {lo hi : Bool} {p : V} {bs : List V} {us : List Value} {r : V} {a : Value} {olo ohi : Option Value} (h : St lim B F S bl ((p, a) :: bs.zip us) H w) (hvs : RepL S bl w bs (olo.toList ++ ohi.toList)) (hus : us = olo.toList ++ ohi.toList)
 (ht : P.underlying t = some (.slice e)) (hz : fP P e sz = true) (hl : lo = olo.isSome) (hh : hi = ohi.isSome) (hr : aHh sz lo hi (p :: bs) = some r) :
 QuietK P B S bl w ((p, a) :: bs.zip us) r (Instr.sliceAt t a olo ohi none) := by
 have h1 := h.rep _ (List.mem_cons_self ..)
 cases p <;> try (simp [aHh] at hr; done)
 ·rename_i own n cs
  simp only [aHh, Option.bind_eq_some_iff] at hr
  obtain ⟨⟨l, hgh⟩, hc, hr⟩ := hr
  split at hr
  ·rename_i hcs
   cases hr
   simp only [Rep] at h1
   obtain ⟨ad, cap, rfl, hle, hnil, hC⟩ := h1
   obtain ⟨c1, c2, c3⟩ := aIa (P := P) (sl := true) (cap := cap) hc hl hh hvs hle
   have run : (Instr.sliceAt t (.slice ad n cap) olo ohi none).run P w = .ok (.slice (if cap = l then ad else ad.map (·.add (l * sz))) (hgh - l) (cap - l)) w := by
    simp only [Instr.sliceAt, Sem.run_bind, aO ht, Result.andThen_ok, Instr.slice, c3, bT hz, Sem.run_pure]
   have hm1 : l * sz + (hgh - l) * sz = hgh * sz := by rw [← Nat.add_mul]; congr 1; omega
   have hm2 : hgh * sz ≤ n * sz := Nat.mul_le_mul_right sz c2
   refine ⟨_, run, ?_, ?_, ?_⟩
   ·simp only [Rep]
    refine ⟨_, cap - l, rfl, by omega, fun hn => ?_, fun ad' had => ?_⟩
    ·have hadn : ad = none := by
      split at hn
      ·exact hn
      ·simpa using hn
     subst hadn
     obtain ⟨q1, q2, q3⟩ := hnil rfl
     subst q3
     exact ⟨by omega, by omega, by simp⟩
    ·split at had
     ·subst had
      rename_i hcl
      obtain ⟨s1, s2⟩ := hC ad' rfl
      have : hgh - l = 0 := by omega
      refine ⟨fun q => by omega, ?_⟩
      rw [this]
      simp [RepC]
     ·obtain ⟨ad0, rfl, rfl⟩ := Option.map_eq_some_iff.1 had
      obtain ⟨s1, s2⟩ := hC ad0 rfl
      rw [kS (s1 (by omega)), add_none]
      exact ⟨fun _ => rfl, s2.piece (l * sz) ((hgh - l) * sz)⟩
   ·intro tp htp
    by_cases hn : hgh = n ∧ own = some sz
    ·obtain ⟨rfl, rfl⟩ := hn
     rw [if_pos ⟨rfl, rfl⟩] at htp
     cases ad with
     | none => simp [cJ, cU, bP] at htp
     | some ad =>
       obtain ⟨s1, s2⟩ := hC ad rfl
       by_cases hcl : cap = l
       ·have : cap - l ≤ hgh - l := by omega
        simp [cJ, cU, bP, hcl, show l ≤ hgh by omega] at htp
       ·rw [kS (s1 (by omega))] at htp
        simp only [if_neg hcl, Option.map_some, add_none, cJ, cU, bP] at htp
        split at htp
        ·cases htp
        ·rename_i hcap'
         simp at htp
         subst htp
         have ht0 := h.tip ⟨ad.block, ad.off, hgh, cap, sz⟩ (.inl (by simp [aH, cJ, cU, bP, show ¬ cap ≤ hgh by omega]))
         obtain ⟨⟨carr, e', lo', hi', q1, q2, q3⟩, q4, q5⟩ := ht0.1
         have e1 : l * sz + (cap - l) * sz = cap * sz := by rw [← Nat.add_mul]; congr 1; omega
         simp only at q1 q2 q3 q4
         exact ⟨⟨⟨carr, e', lo', hi', q1, by simp only; omega, fun o ho ho' => q3 o (by simp only at ho; omega) ho'⟩, fun o ho => q4 o (by simp only at ho; omega), by simp only; omega⟩, ht0.2⟩
    ·rw [if_neg hn] at htp
     simp [cJ, cU, bP] at htp
   ·intro x
    by_cases hn : hgh = n ∧ own = some sz
    ·obtain ⟨rfl, rfl⟩ := hn
     rw [if_pos ⟨rfl, rfl⟩]
     cases ad with
     | none => simp [cJ, cU, bP, aS]
     | some ad =>
       obtain ⟨s1, s2⟩ := hC ad rfl
       by_cases hcl : cap = l
       ·simp [cJ, cU, bP, aS, hcl, show l ≤ hgh by omega]
       ·by_cases hcg : cap ≤ hgh
        ·rw [kS (s1 (by omega))]
         simp [cJ, cU, bP, aS, aH, hcl, add_none, show cap - l ≤ hgh - l by omega]
        ·rw [kS (s1 (by omega))]
         simp [cJ, cU, bP, aS, aH, hcl, add_none, hcg, show ¬ cap - l ≤ hgh - l by omega, List.count_cons]
    ·rw [if_neg hn]
     simp [cJ, cU, bP, aS]
  ·cases hr
 ·rename_i sz' id off n k
  simp only [aHh, Option.bind_eq_some_iff] at hr
  obtain ⟨⟨l, hgh⟩, hc, hr⟩ := hr
  simp only at hr
  split at hr
  ·rename_i hzz
   subst hzz
   simp only [Rep] at h1
   obtain ⟨b, cap, hb, ⟨hnk, hle⟩, rfl, hfit⟩ := h1
   obtain ⟨c1, c2, c3⟩ := aF7 (P := P) (sl := true) (cap := cap) (n := n) hc (fun e => by rw [e]; rfl) hl hh hvs (by split <;> omega)
   have c4 : hgh ≤ k := by split at c2 <;> omega
   have run : (Instr.sliceAt t (.slice (some ⟨b, off, none⟩) n cap) olo ohi none).run P w = .ok (.slice (if cap = l then some ⟨b, off, none⟩ else some ⟨b, off + l * sz', none⟩) (hgh - l) (cap - l)) w := by
    simp only [Instr.sliceAt, Sem.run_bind, aO ht, Result.andThen_ok, Instr.slice, c3, bT hz, Sem.run_pure]
    simp [add_none]
   have hm : l * sz' + (cap - l) * sz' = cap * sz' := by rw [← Nat.add_mul]; congr 1; omega
   split at hr
   ·rename_i hlk
    cases hr
    refine ⟨_, run, ?_, ?_, ?_⟩
    ·have e : (if cap = l then some (⟨b, off, none⟩ : Addr) else some ⟨b, off + l * sz', none⟩) = some ⟨b, off + l * sz', none⟩ := by
      split
      ·rename_i e1
       have : l = 0 := by omega
       subst this; simp
      ·rfl
     rw [e]
     simp only [Rep]
     exact ⟨b, cap - l, hb, ⟨by omega, by omega⟩, rfl, hfit.le (by omega)⟩
    ·intro tp htp; simp [cJ, cU, bP] at htp
    ·intro x; simp [cJ, cU, bP, aS]
   ·cases hr
    refine ⟨_, run, ?_, ?_, ?_⟩
    ·simp only [Rep]
     refine ⟨_, cap - l, by rw [show hgh - l = 0 by omega], Nat.zero_le _, (fun e => by split at e <;> cases e), fun ad had => ?_⟩
     refine ⟨fun _ => by split at had <;> (cases had; rfl), ?_⟩
     simp only [RepC]
    ·intro tp htp; simp [cJ, cU, bP] at htp
    ·intro x; simp [cJ, cU, bP, aS]
  ·cases hr
theorem aX6 {t e sz : Nat} {vs : List V} {r : V} {a lo hi mx : Value} (hvs : RepL S bl w vs [a, lo, hi, mx]) (ht : P.underlying t = some (.slice e)) (hz : fP P e sz = true) (hr : aDu sz vs = some r) :
 Quiet P S bl w r (Instr.sliceAt t a (some lo) (some hi) (some mx)) := by
 match vs, hvs with
 | [p, q1, q2, q3], hvs =>
   simp only [RepL] at hvs
   obtain ⟨_, _, e1, h1, _, _, e2, h2, _, _, e3, h3, _, _, e4, h4, rfl⟩ := hvs
   cases e1; cases e2; cases e3; cases e4
   cases p <;> try (simp [aDu] at hr; done)
   cases q1 <;> try (simp [aDu] at hr; done)
   cases q2 <;> try (simp [aDu] at hr; done)
   cases q3 <;> try (simp [aDu] at hr; done)
   rename_i sz' id off n k k1 i k2 j k3 m
   simp only [aDu] at hr
   split at hr
   ·rename_i hc
    obtain ⟨rfl, i0, i1, i2, i3⟩ := hc
    simp only [Rep] at h1
    obtain ⟨b, cap, hb, ⟨hnk, hle⟩, rfl, hfit⟩ := h1
    obtain rfl := h2.int_inv
    obtain rfl := h3.int_inv
    obtain rfl := h4.int_inv
    have run : (Instr.sliceAt t (.slice (some ⟨b, off, none⟩) n cap) (some (.int k1 i)) (some (.int k2 j)) (some (.int k3 m))).run P w = .ok (.slice (if m.toNat = i.toNat then some ⟨b, off, none⟩ else some ⟨b, off + i.toNat * sz', none⟩) (j.toNat - i.toNat) (m.toNat - i.toNat)) w := by
     have b1 := pI (P := P) (w := w) (k := k3) (i := m) (n := cap) (code := .slice3Acap) (by omega)
     have b2 := pI (P := P) (w := w) (k := k2) (i := j) (n := m.toNat) (code := .slice3B) (by omega)
     have b3 := pI (P := P) (w := w) (k := k1) (i := i) (n := j.toNat) (code := .slice3C) (by omega)
     have hb : (Instr.sliceBounds true n cap (some (.int k1 i)) (some (.int k2 j)) (some (.int k3 m))).run P w = .ok (i.toNat, j.toNat, m.toNat) w := by
      simp only [Instr.sliceBounds, if_true, Sem.run_bind, b1, Result.andThen_ok, b2, Option.isSome_some, b3, Sem.run_pure]
     simp only [Instr.sliceAt, Sem.run_bind, aO ht, Result.andThen_ok, Instr.slice, hb, bT hz, Sem.run_pure]
     simp [add_none]
    have hm : i.toNat * sz' + (m.toNat - i.toNat) * sz' = m.toNat * sz' := by rw [← Nat.add_mul]; congr 1; omega
    have hm2 : m.toNat * sz' ≤ cap * sz' := Nat.mul_le_mul_right _ (by omega)
    split at hr
    ·rename_i hlk
     cases hr
     have e : (if m.toNat = i.toNat then some (⟨b, off, none⟩ : Addr) else some ⟨b, off + i.toNat * sz', none⟩) = some ⟨b, off + i.toNat * sz', none⟩ := by
      split
      ·rename_i e1
       have : i = 0 := by omega
       subst this; simp
      ·rfl
     refine ⟨_, run, ?_, rfl⟩
     rw [e]
     simp only [Rep]
     exact ⟨b, m.toNat - i.toNat, hb, ⟨by omega, by omega⟩, rfl, hfit.le (by omega)⟩
    ·cases hr
     refine ⟨_, run, ?_, rfl⟩
     simp only [Rep]
     refine ⟨_, m.toNat - i.toNat, by rw [show j.toNat - i.toNat = 0 by omega], Nat.zero_le _, (fun e => by split at e <;> cases e), fun ad had => ?_⟩
     refine ⟨fun _ => by split at had <;> (cases had; rfl), ?_⟩
     simp only [RepC]
   ·cases hr
theorem aM4 {le : Int → Int → Bool} {f : Value → Value → Sem Value} (hf : ∀ k x j y, (f (.int k x) (.int j y)).run P w = .ok (.int k (if le x y then y else x)) w) :
 ∀ {vs : List V} {cs : List Value} {v r : V} {c : Value}, Rep S bl w v c → RepL S bl w vs cs → (∃ k n, v = .int k n) → mxn le v vs = some r → Quiet P S bl w r (cs.foldlM f c)
 | [], cs, v, r, c, hv, hvs, hi, h => by
   obtain ⟨k, n, rfl⟩ := hi
   simp only [mxn, Option.some.injEq] at h; subst h
   have : cs = [] := by simpa [RepL] using hvs
   subst this
   obtain rfl := hv.int_inv
   exact ⟨_, rfl, fN .., rfl⟩
 | u :: vs, cs, v, r, c, hv, hvs, hi, h => by
   obtain ⟨k, n, rfl⟩ := hi
   simp only [RepL] at hvs
   obtain ⟨d, rest, rfl, h1, h2⟩ := hvs
   cases u <;> try (simp [mxn] at h; done)
   rename_i j m
   simp only [mxn] at h
   obtain rfl := hv.int_inv
   obtain rfl := h1.int_inv
   obtain ⟨c', q1, q2, q3⟩ := aM4 hf (fN S bl w k (if le n m then m else n)) h2 ⟨_, _, rfl⟩ h
   exact ⟨c', by simp only [List.foldlM_cons, Sem.run_bind, hf, Result.andThen_ok, q1], q2, q3⟩
theorem aIb {le : Int → Int → Bool} {v r : V} : ∀ {vs : List V}, mxn le v vs = some r → vs ≠ [] → ∃ k n, v = .int k n
 | [], _, h => absurd rfl h
 | u :: vs, h, _ => by cases v <;> first | exact ⟨_, _, rfl⟩ | (simp [mxn] at h)
theorem aX7 {s d : TypeId} {k j : IntKind} {vs : List V} {r : V} {a : Value} (hvs : RepL S bl w vs [a]) (hs : P.underlying s = some (.int j)) (hd : P.underlying d = some (.int k)) (h : aNt k vs = some r) : Quiet P S bl w r (convert s d a) := by
 obtain ⟨p, rfl, h1⟩ := fZ hvs
 cases p <;> simp only [aNt] at h <;> cases h
 obtain rfl := h1.int_inv
 exact ⟨_, by simp only [convert, Sem.run_bind, aO hs, aO hd, Result.andThen_ok]; rfl, fN .., rfl⟩
theorem aX8 {s d : TypeId} {vs : List V} {r : V} {a : Value} (hvs : RepL S bl w vs [a]) (hs : P.underlying s = some .string) (hd : P.underlying d = some .string) (h : aNu vs = some r) : Quiet P S bl w r (convert s d a) := by
 obtain ⟨p, rfl, h1⟩ := fZ hvs
 cases p <;> simp only [aNu] at h <;> cases h
 have h2 := h1
 obtain rfl := h1.str_inv
 exact ⟨_, by simp only [convert, Sem.run_bind, aO hs, aO hd, Result.andThen_ok]; rfl, h2, rfl⟩
theorem L1 {S bl w} : ∀ {vs : List V} {cs : List Value} {s : List UInt8}, RepL S bl w vs cs → bytesOf vs = some s → ∃ ns : List Int, cs = ns.map (Value.int .u8) ∧ s = ns.map fun n => UInt8.ofNat n.toNat
 | [], cs, s, h, hb => by simp only [bytesOf, Option.some.injEq] at hb; subst hb; have : cs = [] := by simpa [RepL] using h
                          subst this; exact ⟨[], rfl, rfl⟩
 | v :: vs, cs, s, h, hb => by
   simp only [RepL] at h
   obtain ⟨c, r, rfl, h1, h2⟩ := h
   cases v <;> try (simp [bytesOf] at hb; done)
   rename_i k n
   cases k <;> try (simp [bytesOf] at hb; done)
   simp only [bytesOf, Option.map_eq_some_iff] at hb
   obtain ⟨s', hs', rfl⟩ := hb
   obtain ⟨ns, rfl, rfl⟩ := L1 h2 hs'
   obtain rfl := h1.int_inv
   exact ⟨n :: ns, rfl, rfl⟩
theorem aGy (ns : List Int) : ∀ s : ByteArray, (ns.foldl (fun r n => r.push (UInt8.ofNat n.toNat)) s).data.toList = s.data.toList ++ ns.map fun n => UInt8.ofNat n.toNat := by
 induction ns with
 | nil => intro s; simp
 | cons n ns ih => intro s; simp only [List.foldl_cons, ih, List.map_cons]; simp [ByteArray.push]
theorem aX9 {s d e : TypeId} {vs : List V} {r : V} {a : Value} (hvs : RepL S bl w vs [a]) (hs : P.underlying s = some (.slice e)) (he : P.underlying e = some (.int .u8)) (hd : P.underlying d = some .string) (h : aHj vs = some r) : Quiet P S bl w r (convert s d a) := by
 obtain ⟨p, rfl, h1⟩ := fZ hvs
 cases p <;> try (simp [aHj] at h; done)
 rename_i own n cs
 simp only [aHj] at h
 split at h
 ·rename_i hn
  obtain ⟨l, hl, rfl⟩ := Option.map_eq_some_iff.1 h
  simp only [Rep] at h1
  obtain ⟨ad, cap, rfl, hle, hnil, hC⟩ := h1
  cases ad with
  | none =>
    obtain ⟨rfl, rfl, rfl⟩ := hnil rfl
    simp only [bytesOf, Option.some.injEq] at hl; subst hl
    exact ⟨.string .empty, by rw [run_convert_bytes_string w s d e _ _ _ hs he hd]; rfl, by simp only [Rep]; exact ⟨_, rfl, rfl⟩, rfl⟩
  | some ad =>
    obtain ⟨s1, s2⟩ := hC ad rfl
    obtain ⟨ds, a1, a2, a3⟩ := s2.cells
    obtain ⟨ns, rfl, rfl⟩ := L1 a1 hl
    have hlen := ((aK _ _).1 a1).1
    have hload : (loadCells ad n).run P w = .ok (ns.map (Value.int .u8)).toArray w := by
     by_cases hc0 : cap = 0
     ·obtain rfl : n = 0 := by omega
      obtain rfl : ns = [] := List.length_eq_zero_iff.1 (by simp at hlen; omega)
      exact oL
     ·rw [kS (s1 hc0)]
      exact eA P (by omega) fun j c hj => (a2 j c hj).1
    refine ⟨_, by rw [run_convert_bytes_string w s d e _ _ _ hs he hd]; exact run_bytesToString w ad n cap ns hload, ?_, rfl⟩
    simp only [Rep]
    exact ⟨_, rfl, by rw [aGy]; rfl⟩
 ·cases h
theorem aXa {t : TypeId} {d : TypeDesc} {p : V} {r : V} {a : Value} (h1 : Rep S bl w p a) (ht : P.underlying t = some d) (hd : ∀ ms, d ≠ .interface ms) (h : aNw t [p] = some r) : Quiet P S bl w r (Instr.makeInterface t a) := by
 simp only [aNw] at h
 split at h
 ·rename_i hv
  cases h
  refine ⟨.iface t a, ?_, by simp only [Rep]; exact ⟨a, rfl, h1, hv⟩, rfl⟩
  simp only [Instr.makeInterface, Sem.run_bind, aO ht, Result.andThen_ok]
  cases d <;> first | rfl | exact absurd rfl (hd _)
 ·cases h
theorem B4 {v u : V} {c d : Value} (h1 : Rep S bl w v c) (h2 : Rep S bl w u d) (n1 : v.noVia = true) (n2 : u.noVia = true) : Rep S bl w (.tup [v, u]) (.tuple #[c, d]) := by
 simp only [Rep]
 refine ⟨_, rfl, by simp only [RepL]; exact ⟨c, [d], rfl, h1, d, [], rfl, h2, rfl⟩, fun x hx => ?_⟩
 simp at hx
 rcases hx with rfl | rfl <;> assumption
theorem m3 {v u : V} {c d : Value} (h1 : cU v c = []) (h2 : cU u d = []) : cJ (.tup [v, u]) (.tuple #[c, d]) = [] := by
 show lU [v, u] [c, d] = []
 simp [lU, h1, h2]
theorem aJw {v : V} {c : Value} (h : okV c v = true) : v.noVia = true := by
 cases v <;> first | rfl | (simp [okV] at h)
theorem aJx {v : V} {c : Value} (h : okV c v = true) : cU v c = [] := by
 have := C2 v c h
 cases v with
 | tup l => rw [okV.eq_def] at h; dsimp only at h; split at h <;> first | rfl | cases h
 | _ => exact this
theorem aXb {xt t : TypeId} {d : TypeDesc} {ok : Bool} {zero : V} {vs : List V} {r : V} {a : Value} (hvs : RepL S bl w vs [a]) (ht : P.underlying t = some d) (hd : ∀ ms, d ≠ .interface ms) (hz : G5 P t zero = true) (h : aHk t ok zero vs = some r) :
 Quiet P S bl w r (Instr.typeAssert a xt t ok) := by
 obtain ⟨p, rfl, h1⟩ := fZ hvs
 obtain ⟨z, hz1, hz2⟩ := aCj (w := w) hz
 have fail : (∀ (x y : Option TypeId) (s : String), ok = true → (if ok then (do pure (.tuple #[← zeroValue t, .bool false])) else runtimePanic (.typeAssertion x y t s) : Sem Value).run P w = .ok (.tuple #[z, .bool false]) w) := by
  intro x y s hok; subst hok; simp only [if_true, Sem.run_bind, hz1, Result.andThen_ok, Sem.run_pure]
 have hrz : Rep S bl w (.tup [zero, .bool false]) (.tuple #[z, .bool false]) := B4 (xK _ _ hz2) (fY ..) (aJw hz2) rfl
 have htz : cJ (.tup [zero, .bool false]) (.tuple #[z, .bool false]) = [] := m3 (aJx hz2) rfl
 cases p <;> try (simp [aHk] at h; done)
 ·rename_i t' v
  simp only [Rep] at h1
  obtain ⟨u, rfl, h2, h3⟩ := h1
  simp only [aHk] at h
  by_cases he : t' = t
  ·rw [if_pos he] at h
   cases h
   subst he
   have run : (Instr.typeAssert (.iface t' u) xt t' ok).run P w = .ok (if ok then .tuple #[u, .bool true] else u) w := by
    simp only [Instr.typeAssert, Sem.run_bind, aO ht, Result.andThen_ok]
    cases d <;> first | exact absurd rfl (hd _) | simp
   cases ok
   ·exact ⟨_, run, h2.dis, T3 _ _⟩
   ·exact ⟨_, run, B4 h2.dis2 (fY ..) (V.dis2_noVia _) rfl, m3 (u0 _ _) rfl⟩
  ·rw [if_neg he] at h
   split at h
   ·rename_i hok
    cases h
    refine ⟨_, ?_, hrz, htz⟩
    simp only [Instr.typeAssert, Sem.run_bind, aO ht, Result.andThen_ok]
    cases d <;> first | exact absurd rfl (hd _) | (simp only [Sem.run_ite, if_neg he, hok, if_true, Sem.run_bind, hz1, Result.andThen_ok, Sem.run_pure])
   ·cases h
 ·simp only [Rep] at h1; subst h1
  simp only [aHk] at h
  split at h
  ·rename_i hok
   cases h
   refine ⟨_, ?_, hrz, htz⟩
   simp only [Instr.typeAssert, Sem.run_bind, aO ht, Result.andThen_ok]
   cases d <;> first | exact absurd rfl (hd _) | exact fail _ _ _ hok
  ·cases h
theorem aXc {xt t : TypeId} {want : Array (String × TypeId)} {ts ns : List TypeId} {ok : Bool} {vs : List V} {r : V} {a : Value} (hvs : RepL S bl w vs [a]) (ht : P.underlying t = some (.interface want)) (hz : G5 P t .nili = true)
 (hts : ∀ u, ts.contains u = true → ∃ i, P.info? u = some i ∧ Instr.missingMethod want i.methods = none) (hns : ∀ u, ns.contains u = true → ∃ i m, P.info? u = some i ∧ Instr.missingMethod want i.methods = some m) (h : aHl ts ns ok vs = some r) :
 Quiet P S bl w r (Instr.typeAssert a xt t ok) := by
 obtain ⟨p, rfl, h1⟩ := fZ hvs
 obtain ⟨z, hz1, hz2⟩ := aCj (w := w) hz
 have hrz : Rep S bl w (.tup [.nili, .bool false]) (.tuple #[z, .bool false]) := B4 (xK _ _ hz2) (fY ..) rfl rfl
 have htz : cJ (.tup [.nili, .bool false]) (.tuple #[z, .bool false]) = [] := m3 rfl rfl
 cases p <;> try (simp [aHl] at h; done)
 ·rename_i t' v
  have h1' := h1
  simp only [Rep] at h1
  obtain ⟨u, rfl, h2, h3⟩ := h1
  simp only [aHl] at h
  by_cases he : ts.contains t' = true
  ·rw [if_pos he] at h
   cases h
   obtain ⟨i, hi, hm⟩ := hts t' he
   have run : (Instr.typeAssert (.iface t' u) xt t ok).run P w = .ok (if ok then .tuple #[.iface t' u, .bool true] else .iface t' u) w := by
    simp only [Instr.typeAssert, Sem.run_bind, aO ht, Result.andThen_ok, fJ hi, hm, Sem.run_pure]
   cases ok
   ·exact ⟨_, run, h1', rfl⟩
   ·exact ⟨_, run, B4 h1' (fY ..) rfl rfl, m3 rfl rfl⟩
  ·rw [if_neg he] at h
   split at h
   ·rename_i hok
    cases h
    simp only [Bool.and_eq_true] at hok
    obtain ⟨hn, hok⟩ := hok
    refine ⟨_, ?_, hrz, htz⟩
    obtain ⟨i, m, hi, hm⟩ := hns t' hn
    simp only [Instr.typeAssert, Sem.run_bind, aO ht, Result.andThen_ok, fJ hi, hm, Sem.run_ite, hok, if_true, hz1, Sem.run_pure]
   ·cases h
 ·simp only [Rep] at h1; subst h1
  simp only [aHl] at h
  split at h
  ·rename_i hok
   cases h
   refine ⟨_, ?_, hrz, htz⟩
   simp only [Instr.typeAssert, Sem.run_bind, aO ht, Result.andThen_ok, Sem.run_ite, hok, if_true, hz1, Sem.run_pure]
  ·cases h
theorem H8 : ∀ {vs : List V} {cs : List Value} {i : Nat} {v : V} {c : Value}, vs[i]? = some v → cs[i]? = some c → (∀ t ∈ cU v c, t ∈ lU vs cs) ∧ ∀ x, (aS (cU v c)).count x ≤ (aS (lU vs cs)).count x
 | [], _, _, _, _, h, _ => by simp at h
 | _ :: _, [], _, _, _, _, h => by simp at h
 | u :: vs, d :: cs, 0, v, c, h, k => by
   simp at h k; subst h; subst k
   exact ⟨fun t ht => List.mem_append_left _ ht, fun x => by simp only [lU, aS, List.map_append, List.count_append]; omega⟩
 | u :: vs, d :: cs, i + 1, v, c, h, k => by
   obtain ⟨a1, a2⟩ := H8 (vs := vs) (cs := cs) (i := i) (v := v) (c := c) (by simpa using h) (by simpa using k)
   exact ⟨fun t ht => List.mem_append_right _ (a1 t ht), fun x => by have := a2 x; simp only [lU, aS, List.map_append, List.count_append] at this ⊢; omega⟩
theorem aXd {i : Nat} {vs : List V} {p r : V} {a : Value} (h : St lim B F S bl [(p, a)] H w) (hr : aHm i [p] = some r) : QuietK P B S bl w [(p, a)] r (Instr.extract a i) := by
 have h1 := h.rep _ (List.mem_cons_self ..)
 cases p <;> try (simp [aHm] at hr; done)
 rename_i us
 simp only [aHm, Option.bind_eq_some_iff] at hr
 obtain ⟨r', hr, hr1⟩ := hr
 obtain ⟨rfl, hr2⟩ : r = r' ∧ ∀ us, r' ≠ .tup us := by cases r' <;> simp only [V.ntup] at hr1 <;> cases hr1 <;> exact ⟨rfl, fun us e => by cases e⟩
 simp only [Rep] at h1
 obtain ⟨arr, rfl, h2, h3⟩ := h1
 obtain ⟨c, c1, c2⟩ := h2.get hr
 have e : cJ r c = cU r c := by cases r <;> first | rfl | exact absurd rfl (hr2 _)
 have e2 : aH [(V.tup us, Value.tuple arr)] = lU us arr.toList := by simp [aH, cJ]
 obtain ⟨b1, b2⟩ := H8 hr c1
 rw [Array.getElem?_toList] at c1
 refine ⟨c, by simp only [Instr.extract, c1, Sem.run_pure], c2, ?_, ?_⟩
 ·rw [e]; exact fun t ht => h.tip t (.inl (by rw [e2]; exact b1 t ht))
 ·rw [e, e2]; exact b2
theorem aXe {f : FuncId} {vs : List V} {cs : Array Value} (hvs : RepL S bl w vs cs.toList) (hs : vs.all V.single = true) : Quiet P S bl w (.fn f vs) (Instr.makeFunc (.func f) #[] cs) :=
 ⟨_, rfl, by simp only [Rep]; exact ⟨cs, rfl, hvs, fun v hv => List.all_eq_true.1 hs v hv⟩, rfl⟩
end
end Go.Abs
namespace Go.Abs
open Go.RowKit (Below)
set_option linter.unusedVariables false
set_option linter.unusedSimpArgs false
section
variable {P : Program} {lim : Option Nat} {B : Nat} {F : List Nat} {S : Nat → Nat → Prop} {bl : List Nat} {vals : List (V × Value)} {H : aB} {w : World}
theorem s5 {v : V} {c : Value} (h : Rep S bl w v c) (hb : v.boxy = true) : RepL S bl w v.cells c.cells.toList ∧ (∀ u ∈ v.cells, u.single = true) ∧ cJ v c = aT v.cells c.cells.toList := by
 cases v with
 | tup => cases hb
 | via => cases hb
 | agg cs =>
   obtain ⟨a1, a2⟩ := h.cells (.inr ⟨cs, rfl⟩)
   obtain ⟨a, rfl, _⟩ := h.agg_inv
   exact ⟨a1, a2, rfl⟩
 | _ =>
   obtain ⟨a1, a2⟩ := h.cells (.inl rfl)
   refine ⟨a1, a2, ?_⟩
   rw [(h.oneCell rfl).2]
   simp [V.cells, cJ, cU, aT]
theorem R5 : ∀ (xs : List Value) (off k : Nat) (cells : Array Value), ((xs.zipIdx k).foldl (fun cs (p : Value × Nat) => cs.setIfInBounds (off + p.2) p.1) cells).toList =
 if off + k + xs.length ≤ cells.size then cells.toList.take (off + k) ++ xs ++ cells.toList.drop (off + k + xs.length) else ((xs.zipIdx k).foldl (fun cs (p : Value × Nat) => cs.setIfInBounds (off + p.2) p.1) cells).toList
 | [], off, k, cells => by simp
 | x :: xs, off, k, cells => by
   split
   ·rename_i hle
    simp only [List.length_cons] at hle
    simp only [List.zipIdx_cons, List.foldl_cons]
    rw [R5 xs off (k + 1) _, if_pos (by simp; omega)]
    simp only [Array.toList_setIfInBounds, List.length_cons]
    have hlt : off + k < cells.toList.length := by simp; omega
    rw [show off + (k + 1) = off + k + 1 by omega]
    rw [List.take_set, List.drop_set_of_lt (by omega)]
    have : (cells.toList.take (off + k + 1)).set (off + k) x = cells.toList.take (off + k) ++ [x] := by
     rw [List.take_succ_eq_append_getElem hlt]
     rw [List.set_append_right _ _ (by simp; omega)]
     simp only [List.length_take]
     rw [show off + k - min (off + k) cells.toList.length = 0 by omega]
     rfl
    rw [this]
    simp [List.append_assoc, show off + k + 1 + xs.length = off + k + (xs.length + 1) by omega]
   ·rfl
theorem aJd (xs : Array Value) (off : Nat) (cells : Array Value) (h : off + xs.size ≤ cells.size) : (xs.zipIdx.foldl (fun cs (p : Value × Nat) => cs.setIfInBounds (off + p.2) p.1) cells).toList = cells.toList.take off ++ xs.toList ++ cells.toList.drop (off + xs.size) := by
 have := R5 xs.toList off 0 cells
 rw [if_pos (by simpa using h)] at this
 simp only [Nat.add_zero, Array.length_toList] at this
 rw [← this, ← Array.foldl_toList]
 have e : xs.zipIdx.toList = xs.toList.zipIdx := by simp [Array.zipIdx, List.mapIdx_eq_zipIdx_map]
 rw [e]
theorem RepL.laid {cs xs : List V} {ds es : List Value} {off : Nat} (h : RepL S bl w cs ds) (k : RepL S bl w xs es) : RepL S bl w (fB cs off xs) (ds.take off ++ es ++ ds.drop (off + es.length)) := by
 have hl := ((aK xs es).1 k).1
 unfold fB
 rw [← hl]
 have h1 := h.piece 0 off
 simp only [List.drop_zero] at h1
 have h2 := h.piece (off + xs.length) cs.length
 have e1 : (cs.drop (off + xs.length)).take cs.length = cs.drop (off + xs.length) := List.take_of_length_le (by simp)
 have hlc := ((aK cs ds).1 h).1
 have e2 : (ds.drop (off + xs.length)).take cs.length = ds.drop (off + xs.length) := List.take_of_length_le (by simp; omega)
 rw [e1, e2] at h2
 exact kQ (kQ h1 k) h2
theorem aL7 {cs xs : List V} {ds es : List Value} {off : Nat} (hl : cs.length = ds.length) (hx : xs.length = es.length) : (∀ t ∈ aT (fB cs off xs) (ds.take off ++ es ++ ds.drop (off + es.length)), t ∈ aT cs ds ∨ t ∈ aT xs es) ∧
 ∀ x, (aS (aT (fB cs off xs) (ds.take off ++ es ++ ds.drop (off + es.length)))).count x ≤ (aS (aT cs ds)).count x + (aS (aT xs es)).count x := by
 unfold fB
 rw [eU (by simp [hl, hx]), eU (by simp [hl]), ← hx]
 have e : aT cs ds = aT (cs.take off) (ds.take off) ++ (aT ((cs.drop off).take xs.length) ((ds.drop off).take xs.length) ++ aT (cs.drop (off + xs.length)) (ds.drop (off + xs.length))) := by
  rw [← eU (by simp [hl]), ← List.drop_drop, ← List.drop_drop, List.take_append_drop, List.take_append_drop, ← eU (by simp [hl]), List.take_append_drop, List.take_append_drop]
 rw [e]
 refine ⟨fun t ht => ?_, fun x => by simp only [aS, List.map_append, List.count_append]; omega⟩
 simp only [List.mem_append] at ht ⊢
 rcases ht with (ht | ht) | ht
 ·exact .inl (.inl ht)
 ·exact .inr ht
 ·exact .inl (.inr (.inr ht))
theorem aGl {cs xs : List V} {off : Nat} (h : off + xs.length ≤ cs.length) : (fB cs off xs).length = cs.length := by unfold fB; simp; omega
theorem aGm {cs xs : List V} {off : Nat} (h : ∀ v ∈ cs, v.single = true) (k : ∀ v ∈ xs, v.single = true) : ∀ v ∈ fB cs off xs, v.single = true := by
 unfold fB
 intro v hv
 simp only [List.mem_append] at hv
 rcases hv with (hv | hv) | hv
 ·exact h v (List.mem_of_mem_take hv)
 ·exact k v hv
 ·exact h v (List.mem_of_mem_drop hv)
theorem wL {place : Nat → Option (Nat × Nat)} : ∀ (qs : List (Nat × Nat)) (ps : List (Nat × Value)) (vs : List V) (cs r : List V) (cells : Array Value), ps.map (fun p => place p.1) = qs.map some → RepL S bl w vs (ps.map (·.2)) → RepL S bl w cs cells.toList → (∀ v ∈ cs, v.single = true) → aW cs qs vs = some r →
 ∃ cells', Instr.fill place cells ps = some cells' ∧ RepL S bl w r cells'.toList ∧ (∀ v ∈ r, v.single = true) ∧ (∀ t ∈ aT r cells'.toList, t ∈ aT cs cells.toList ∨ t ∈ aH (vs.zip (ps.map (·.2)))) ∧
  ∀ x, (aS (aT r cells'.toList)).count x ≤ (aS (aT cs cells.toList)).count x + (aS (aH (vs.zip (ps.map (·.2))))).count x
 | [], ps, vs, cs, r, cells, hp, hvs, hcs, hs, h => by
   have hps : ps = [] := by cases ps <;> simp_all
   subst hps
   cases vs with
   | nil =>
     simp only [aW, Option.some.injEq] at h; subst h
     exact ⟨cells, rfl, hcs, hs, fun t ht => .inl ht, fun x => by omega⟩
   | cons => simp [aW] at h
 | (off, size) :: qs, [], vs, cs, r, cells, hp, hvs, hcs, hs, h => by simp at hp
 | (off, size) :: qs, (i, c) :: ps, vs, cs, r, cells, hp, hvs, hcs, hs, h => by
   simp only [List.map_cons, List.cons.injEq] at hp
   obtain ⟨hp1, hp2⟩ := hp
   cases vs with
   | nil => simp [aW] at h
   | cons v vs =>
     simp only [aW] at h
     split at h
     ·rename_i hcond
      obtain ⟨hb, hz, hle⟩ := hcond
      simp only [List.map_cons, RepL] at hvs
      obtain ⟨_, _, e, h1, h2⟩ := hvs
      simp only [List.cons.injEq] at e
      obtain ⟨rfl, rfl⟩ := e
      obtain ⟨b1, b2, b3⟩ := s5 h1 hb
      have hl1 := ((aK _ _).1 b1).1
      have hlc := ((aK _ _).1 hcs).1
      have hsz : c.cells.size = size := by rw [← Array.length_toList]; omega
      have hcs' : cells.size = cs.length := by rw [← Array.length_toList]; omega
      have hfold := aJd c.cells off cells (by omega)
      have hL := hcs.laid (off := off) b1
      rw [Array.length_toList, ← hfold] at hL
      have hT := aL7 (off := off) (es := c.cells.toList) hlc hl1
      rw [Array.length_toList, ← hfold] at hT
      obtain ⟨cells', d1, d2, d3, d4, d5⟩ := wL qs ps vs _ r _ hp2 h2 hL (aGm hs b2) h
      refine ⟨cells', ?_, d2, d3, fun t ht => ?_, fun x => ?_⟩
      ·simp only [Instr.fill, hp1]
       rw [if_neg (by simp [hsz]; omega)]
       exact d1
      ·simp only [List.map_cons, List.zip_cons_cons, aH, List.mem_append]
       rcases d4 t ht with d | d
       ·rcases hT.1 t d with d | d
        ·exact .inl d
        ·exact .inr (.inl (by rw [b3]; exact d))
       ·exact .inr (.inr d)
      ·have := d5 x
       have := hT.2 x
       simp only [List.map_cons, List.zip_cons_cons, aH, b3, aS, List.map_append, List.count_append] at *
       omega
     ·cases h
theorem A5 : ∀ {qs : List (Nat × Nat)} {vs cs r : List V}, aW cs qs vs = some r → r.length = cs.length
 | [], [], cs, r, h => by simp only [aW, Option.some.injEq] at h; rw [h]
 | [], _ :: _, cs, r, h => by simp [aW] at h
 | _ :: _, [], cs, r, h => by simp [aW] at h
 | (off, size) :: qs, v :: vs, cs, r, h => by
   simp only [aW] at h
   split at h
   ·rename_i hc
    rw [A5 h, aGl (by omega)]
   ·cases h
theorem aGn {fs : Array Field} (h : ∀ f ∈ fs.toList, (P.info? f.type).isSome = true) :
 (fs.mapM fun f => (do pure (f.offset, ← Go.sizeOf f.type) : Sem (Nat × Nat))).run P w = .ok (fs.map fun f => (f.offset, P.cellsOf f.type)) w := by
 rw [Array.mapM_eq_mapM_toList]
 have key : ∀ l : List Field, (∀ f ∈ l, (P.info? f.type).isSome = true) → (l.mapM fun f => (do pure (f.offset, ← Go.sizeOf f.type) : Sem (Nat × Nat))).run P w = .ok (l.map fun f => (f.offset, P.cellsOf f.type)) w := by
  intro l
  induction l with
  | nil => intro _; rfl
  | cons f l ih =>
    intro hl
    obtain ⟨i, hi⟩ := Option.isSome_iff_exists.1 (hl f (List.mem_cons_self ..))
    have hsz : (Go.sizeOf f.type).run P w = .ok i.size w := bT (by simp [fP, hi])
    have hce : P.cellsOf f.type = i.size := by simp [Program.cellsOf, hi]
    simp only [List.mapM_cons, Sem.run_bind, hsz, Result.andThen_ok, Sem.run_pure, ih fun g hg => hl g (List.mem_cons_of_mem _ hg), List.map_cons, hce]
 simp only [Sem.run_map, key fs.toList h, Result.andThen_ok]
 congr 1
 apply Array.ext'
 simp
theorem A6 {fs : Array Field} : ∀ {ps : List (Nat × Operand)} {qs : List (Nat × Nat)} (ρ : Operand → Value), l8 P fs ps qs = true →
 (ps.map fun p => (p.1, ρ p.2)).map (fun p => (fs.map fun f => (f.offset, P.cellsOf f.type))[p.1]?) = qs.map some
 | [], [], _, _ => rfl
 | [], _ :: _, _, h => by simp [l8] at h
 | _ :: _, [], _, h => by simp [l8] at h
 | (i, x) :: ps, (off, size) :: qs, ρ, h => by
   simp only [l8, Bool.and_eq_true] at h
   obtain ⟨h1, h2⟩ := h
   split at h1
   ·rename_i f hf
    simp only [Bool.and_eq_true, beq_iff_eq] at h1
    obtain ⟨rfl, h3⟩ := h1
    have hc : P.cellsOf f.type = size := by
     unfold fP at h3
     split at h3
     ·rename_i i' hi'; simp only [beq_iff_eq] at h3; simp [Program.cellsOf, hi', h3]
     ·cases h3
    simp only [List.map_cons, List.cons.injEq]
    refine ⟨by rw [Array.getElem?_map, hf]; simp [hc], ?_⟩
    exact A6 ρ h2
   ·cases h1
theorem wM {size : Nat} : ∀ {ps : List (Nat × Operand)} {qs : List Nat} (ρ : Operand → Value), wP size ps qs = true →
 (ps.map fun p => (p.1, ρ p.2)).map (fun p => (some (p.1 * size, size) : Option (Nat × Nat))) = (qs.map (·, size)).map some
 | [], [], _, _ => rfl
 | [], _ :: _, _, h => by simp [wP] at h
 | _ :: _, [], _, h => by simp [wP] at h
 | (i, x) :: ps, off :: qs, ρ, h => by
   simp only [wP, Bool.and_eq_true, beq_iff_eq] at h
   obtain ⟨rfl, h2⟩ := h
   simp only [List.map_cons, List.cons.injEq]
   exact ⟨trivial, wM ρ h2⟩
theorem R6 {r : List V} {cells : Array Value} (h : St lim B F S bl vals H w) (hr : RepL S bl w r cells.toList) (hs : ∀ v ∈ r, v.single = true) (ht : ∀ t ∈ aT r cells.toList, t ∈ aH vals)
 (hc : ∀ x, (aS (aT r cells.toList)).count x ≤ (aS (aH vals)).count x) : Rep S bl w (.agg r) (.agg cells) ∧ (∀ t ∈ cJ (.agg r) (.agg cells), TipOK S w t ∧ B ≤ t.blk) ∧ ∀ x, (aS (cJ (.agg r) (.agg cells))).count x ≤ (aS (aH vals)).count x :=
 ⟨by simp only [Rep]; exact ⟨cells, rfl, hr, hs⟩, fun t k => h.tip t (.inl (ht t k)), hc⟩
theorem aSc {t : TypeId} {ps : List (Nat × Value)} {fs : Array Field} {zero : List V} {qs : List (Nat × Nat)} {vs r : List V} (h : St lim B F S bl (vs.zip (ps.map (·.2))) H w) (hvs : RepL S bl w vs (ps.map (·.2))) (hz : oI P t zero = true)
 (ht : P.underlying t = some (.struct fs)) (hfs : ∀ f ∈ fs.toList, (P.info? f.type).isSome = true) (hp : ps.map (fun p => (fs.map fun f => (f.offset, P.cellsOf f.type))[p.1]?) = qs.map some) (hr : aW zero qs vs = some r) :
 QuietK P B S bl w (vs.zip (ps.map (·.2))) (.agg r) (Instr.build t ps.toArray) := by
 obtain ⟨z, hz1, hz2⟩ := sO (w := w) hz
 obtain ⟨z3, z4⟩ := mZ (S := S) (bl := bl) (w := w) zero z.cells.toList hz2
 obtain ⟨cells, d1, d2, d3, d4, d5⟩ := wL (S := S) (bl := bl) (w := w) qs ps vs zero r z.cells hp hvs z3 z4 hr
 have e0 := pN zero z.cells.toList hz2
 obtain ⟨g1, g2, g3⟩ := R6 h d2 d3 (fun t k => (d4 t k).elim (fun x => by rw [e0] at x; cases x) id) (fun x => by have := d5 x; rw [e0] at this; simpa [aS] using this)
 refine ⟨.agg cells, ?_, g1, g2, g3⟩
 simp only [Instr.build, Sem.run_bind, hz1, Result.andThen_ok, aO ht, aGn hfs, d1, Sem.run_pure]
theorem aSd {t e n : Nat} {i : TypeInfo} {ps : List (Nat × Value)} {zero : List V} {qs : List (Nat × Nat)} {vs r : List V} (h : St lim B F S bl (vs.zip (ps.map (·.2))) H w) (hvs : RepL S bl w vs (ps.map (·.2))) (hz : oI P t zero = true)
 (ht : P.underlying t = some (.array n e)) (hi : P.info? e = some i) (hp : ps.map (fun p => (some (p.1 * i.size, i.size) : Option (Nat × Nat))) = qs.map some) (hr : aW zero qs vs = some r) :
 QuietK P B S bl w (vs.zip (ps.map (·.2))) (.agg r) (Instr.build t ps.toArray) := by
 obtain ⟨z, hz1, hz2⟩ := sO (w := w) hz
 obtain ⟨z3, z4⟩ := mZ (S := S) (bl := bl) (w := w) zero z.cells.toList hz2
 obtain ⟨cells, d1, d2, d3, d4, d5⟩ := wL (S := S) (bl := bl) (w := w) (place := fun j => some (j * i.size, i.size)) qs ps vs zero r z.cells hp hvs z3 z4 hr
 have e0 := pN zero z.cells.toList hz2
 obtain ⟨g1, g2, g3⟩ := R6 h d2 d3 (fun t k => (d4 t k).elim (fun x => by rw [e0] at x; cases x) id) (fun x => by have := d5 x; rw [e0] at this; simpa [aS] using this)
 have hsz : (Go.sizeOf e).run P w = .ok i.size w := bT (by simp [fP, hi])
 refine ⟨.agg cells, ?_, g1, g2, g3⟩
 simp only [Instr.build, Sem.run_bind, hz1, Result.andThen_ok, aO ht, hsz, d1, Sem.run_pure]
theorem R7 {cs : List V} {carr : Array Value} {e : TypeId} {ex : List Value} {ds : List Value} {us : List (V × Value)} (h : St lim B F S bl us H w) (hB : B ≤ w.heap.size) (hr : RepL S bl w cs ds) (hs : ∀ v ∈ cs, v.single = true)
 (ht : ∀ t ∈ aT cs ds, t ∈ aH us) (hc : ∀ x, (aS (aT cs ds)).count x ≤ (aS (aH us)).count x) (hca : carr.toList = ds ++ ex) :
 St lim B F S (bl ++ [w.heap.size]) [] (H ++ [cs]) { w with heap := w.heap.push (.cells carr e) } ∧ Ext lim B F S bl H w S (bl ++ [w.heap.size]) (H ++ [cs]) { w with heap := w.heap.push (.cells carr e) } := by
 have h0 : St lim B (F ++ aS (aT cs ds)) S bl [] H w := by
  have := St.rem (us := us) (vals := []) (by simpa using h)
  exact this.unframe fun x => by have := hc x; simp only [List.count_append]; omega
 exact h0.newObj hB hr hs (fun t k => (h.tip t (.inl (ht t k))).1) hca
theorem aL8 {e n : Nat} {p r : V} {H' : aB} {a : Value} (h : St lim B F S bl [(p, a)] H w) (hB : B ≤ w.heap.size) (hr : aKj n H [p] = some (r, H')) : uY P lim B F S bl H w r H' ((do pure (.value (← Instr.box e a)) : Sem Next).run P w) := by
 simp only [aKj] at hr
 split at hr
 ·rename_i hb
  cases hr
  simp only [Bool.and_eq_true] at hb
  obtain ⟨b1, b2, b3⟩ := s5 (show Rep S bl w p a from h.rep _ (List.mem_cons_self ..)) hb.1
  have e1 : aH [(p, a)] = aT p.cells a.cells.toList := by simp [aH, b3]
  obtain ⟨g1, g2⟩ := R7 (e := e) (ex := []) h hB b1 b2 (by rw [e1]; exact fun _ k => k) (by rw [e1]; exact fun _ => Nat.le_refl _) (carr := a.cells) (by simp)
  refine ⟨.pointer (some ⟨w.heap.size, 0, none⟩), _, _, _, .inl ?_, g1.add0 ?_ rfl, g2⟩
  ·simp [Instr.box, newVar, newRow]
  ·simp only [Rep]; exact ⟨w.heap.size, by rw [h.len]; simp, rfl⟩
 ·cases hr
theorem aL9 {t : TypeId} {zero : List V} (h : St lim B F S bl vals H w) (hB : B ≤ w.heap.size) (hz : oI P t zero = true) : uY P lim B F S bl H w (.ptr H.length 0) (H ++ [zero]) ((do pure (.value (← Instr.alloc t true (.tuple #[]))) : Sem Next).run P w) := by
 obtain ⟨z, hz1, hz2⟩ := sO (w := w) hz
 obtain ⟨z3, z4⟩ := mZ (S := S) (bl := bl) (w := w) zero z.cells.toList hz2
 have e0 := pN zero z.cells.toList hz2
 obtain ⟨g1, g2⟩ := R7 (e := t) (ex := []) h.nil hB z3 z4 (by rw [e0]; intro _ k; cases k) (by rw [e0]; intro x; simp [aS]) (carr := z.cells) (by simp)
 refine ⟨.pointer (some ⟨w.heap.size, 0, none⟩), _, _, _, .inl ?_, g1.add0 ?_ rfl, g2⟩
 ·simp [Instr.alloc, hz1, newVar, newRow]
 ·simp only [Rep]; exact ⟨w.heap.size, by rw [h.len]; simp, rfl⟩
theorem aLa {e n : Nat} {p r : V} {a : Value} (h : St lim B F S bl [(p, a)] H w) (hB : B ≤ w.heap.size) (hr : aHd n [p] = some r) : uY P lim B F S bl H w r H ((do pure (.value (← Instr.box e a)) : Sem Next).run P w) := by
 simp only [aHd] at hr
 split at hr
 ·rename_i hb
  cases hr
  simp only [Bool.and_eq_true] at hb
  obtain ⟨b1, b2, b3⟩ := s5 (show Rep S bl w p a from h.rep _ (List.mem_cons_self ..)) hb.1
  obtain ⟨S', g1, g2⟩ := h.nil.newSl (e := e) (lo := 0) (hi := 0) (n := (p.cells.map V.dis1).length) (cap := (p.cells.map V.dis1).length) (sz := 1) (ex := []) hB b1.dis1 (fun v hv => by obtain ⟨u, hu, rfl⟩ := List.mem_map.1 hv; exact V.dis1_single (b2 u hu)) (carr := a.cells) (by simp) (fun o _ => by omega) (by omega) ⟨Nat.le_refl _, by
   have := ((aK _ _).1 b1).1; simp at this ⊢; omega⟩
  refine ⟨.pointer (some ⟨w.heap.size, 0, none⟩), _, S', bl, .inl ?_, ?_, g2⟩
  ·simp [Instr.box, newVar, newRow]
  ·have hrep := g1.rep _ (List.mem_cons_self ..)
   simp only [Rep] at hrep
   obtain ⟨ad, cap, e1, _, _, hC⟩ := hrep
   cases e1
   refine g1.nil.add0 ?_ rfl
   simp only [Rep]
   exact ⟨w.heap.size, 0, rfl, (hC _ rfl).2⟩
 ·cases hr
end
end Go.Abs
