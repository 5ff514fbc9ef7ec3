/-
  Each operation of AbsA does what GoSem's does: pieces of values, texts, conversions, interfaces.
-/
import Derived.Test.YtcfefgeheibadaaAbsQ
namespace Go.Abs
open Go.RowKit (Below)
set_option linter.unusedVariables false
set_option linter.unusedSimpArgs false

section
variable {P : Program} {lim : Option Nat} {B : Nat} {F : List Nat} {S : Nat → Nat → Prop} {bl : List Nat} {vals : List (V × Value)} {H : Heap} {w : World}

theorem RepL.get {vs : List V} {cs : List Value} (h : RepL S bl w vs cs) {i : Nat} {v : V} (hv : vs[i]? = some v) : ∃ c, cs[i]? = some c ∧ Rep S bl w v c := by
  obtain ⟨h1, h2⟩ := (RepL_iff vs cs).1 h
  obtain ⟨hi, _⟩ := List.getElem?_eq_some_iff.1 hv
  exact ⟨_, List.getElem?_eq_getElem (by omega), h2 i v _ hv (List.getElem?_eq_getElem (by omega))⟩
theorem RepL.piece {vs : List V} {cs : List Value} (h : RepL S bl w vs cs) (i n : Nat) : RepL S bl w ((vs.drop i).take n) ((cs.drop i).take n) := by
  obtain ⟨h1, h2⟩ := (RepL_iff vs cs).1 h
  refine (RepL_iff _ _).2 ⟨by simp [h1], fun j v c hv hc => ?_⟩
  rw [List.getElem?_take] at hv hc
  split at hv
  · rw [if_pos ‹_›, List.getElem?_drop] at hc
    rw [List.getElem?_drop] at hv
    exact h2 _ v c hv hc
  · cases hv
theorem tipsL_append : ∀ {vs us : List V} {cs ds : List Value}, vs.length = cs.length → tipsL (vs ++ us) (cs ++ ds) = tipsL vs cs ++ tipsL us ds
  | [], _, [], _, _ => rfl
  | [], _, _ :: _, _, h => by simp at h
  | _ :: _, _, [], _, h => by simp at h
  | v :: vs, us, c :: cs, ds, h => by simp only [List.cons_append, tipsL, tipsL_append (vs := vs) (cs := cs) (by simpa using h), List.append_assoc]
theorem tipsL_get : ∀ {vs : List V} {cs : List Value} {i : Nat} {v : V} {c : Value}, vs[i]? = some v → cs[i]? = some c → (∀ t ∈ tips1 v c, t ∈ tipsL vs cs) ∧ ∀ x, (blks (tips1 v c)).count x ≤ (blks (tipsL vs cs)).count x
  | [], _, _, _, _, h, _ => by simp at h
  | _ :: _, [], _, _, _, _, h => by simp at h
  | u :: vs, d :: cs, 0, v, c, h, k => by
    simp at h k; subst h; subst k
    exact ⟨fun t ht => List.mem_append_left _ ht, fun x => by simp only [tipsL, blks, List.map_append, List.count_append]; omega⟩
  | u :: vs, d :: cs, i + 1, v, c, h, k => by
    obtain ⟨a1, a2⟩ := tipsL_get (vs := vs) (cs := cs) (i := i) (v := v) (c := c) (by simpa using h) (by simpa using k)
    exact ⟨fun t ht => List.mem_append_right _ (a1 t ht), fun x => by have := a2 x; simp only [tipsL, blks, List.map_append, List.count_append] at this ⊢; omega⟩
theorem tipsL_piece {vs : List V} {cs : List Value} (hl : vs.length = cs.length) (i n : Nat) : (∀ t ∈ tipsL ((vs.drop i).take n) ((cs.drop i).take n), t ∈ tipsL vs cs) ∧ ∀ x, (blks (tipsL ((vs.drop i).take n) ((cs.drop i).take n))).count x ≤ (blks (tipsL vs cs)).count x := by
  have e : tipsL vs cs = tipsL (vs.take i) (cs.take i) ++ (tipsL ((vs.drop i).take n) ((cs.drop i).take n) ++ tipsL ((vs.drop i).drop n) ((cs.drop i).drop n)) := by
    rw [← tipsL_append (by simp [hl]), ← tipsL_append (by simp [hl]), List.take_append_drop, List.take_append_drop, List.take_append_drop, List.take_append_drop]
  rw [e]
  exact ⟨fun t ht => by simp [ht], fun x => by simp only [blks, List.map_append, List.count_append]; omega⟩

theorem q_nc {vs : List V} {r : V} {a : Value} (hvs : RepL S bl w vs [a]) (h : aNc vs = some r) : ∃ ad : Addr, a = .pointer (some ad) ∧ Rep S bl w r a ∧ tips r a = [] := by
  obtain ⟨p, rfl, h1⟩ := one_inv hvs
  cases p <;> simp only [aNc] at h <;> cases h
  · obtain ⟨b, hb, rfl⟩ := h1.ptr_inv; exact ⟨_, rfl, h1, rfl⟩
  · obtain ⟨b, o, rfl, _⟩ := h1.fp_inv; exact ⟨_, rfl, h1, rfl⟩

/-! ### Pieces of structs and arrays -/
theorem run_part1 {t : TypeId} {d : TypeDesc} (ht : P.underlying t = some d) (hd : isAggB P t = false) {cs : Array Value} {o : Nat} {c : Value} (hc : cs[o]? = some c) : (part t cs o).run P w = .ok c w := by
  simp only [part, Sem.run_bind, run_isAgg ht, hd, Result.andThen_ok, Sem.run_ite, Bool.false_eq_true, if_false, hc, Sem.run_pure]
theorem run_partN {t : TypeId} {n : Nat} (ht : isAggB P t = true) (hz : szIs P t n = true) {cs : Array Value} {o : Nat} : (part t cs o).run P w = .ok (.agg (cs.extract o (o + n))) w := by
  have hu : ∃ d, P.underlying t = some d := by
    unfold isAggB at ht
    cases hu : P.underlying t with
    | none => rw [hu] at ht; cases ht
    | some d => exact ⟨d, rfl⟩
  obtain ⟨d, hu⟩ := hu
  simp only [part, Sem.run_bind, run_isAgg hu, ht, Result.andThen_ok, Sem.run_ite, if_true, run_size hz, Sem.run_pure]
theorem extract_toList (a : Array Value) (o n : Nat) : (a.extract o (o + n)).toList = (a.toList.drop o).take n := by
  simp [Array.toList_extract, List.extract]
theorem aggOf {cs : List V} {a : Array Value} (h : RepL S bl w cs a.toList) (hs : ∀ v ∈ cs, v.single = true) (hv : ∀ t ∈ vtips vals, TipOK S w t ∧ B ≤ t.blk) (ht : ∀ t ∈ tipsL cs a.toList, t ∈ vtips vals) (hc : ∀ x, (blks (tipsL cs a.toList)).count x ≤ (blks (vtips vals)).count x)
    (o n : Nat) (hle : o + n ≤ cs.length) : Rep S bl w (.agg ((cs.drop o).take n)) (.agg (a.extract o (o + n))) ∧ (∀ t ∈ tips (.agg ((cs.drop o).take n)) (.agg (a.extract o (o + n))), TipOK S w t ∧ B ≤ t.blk) ∧ ∀ x, (blks (tips (.agg ((cs.drop o).take n)) (.agg (a.extract o (o + n))))).count x ≤ (blks (vtips vals)).count x := by
  have hl := ((RepL_iff _ _).1 h).1
  have e : tips (.agg ((cs.drop o).take n)) (.agg (a.extract o (o + n))) = tipsL ((cs.drop o).take n) ((a.toList.drop o).take n) := by
    show tipsL _ (a.extract o (o + n)).toList = _
    rw [extract_toList]
  obtain ⟨b1, b2⟩ := tipsL_piece hl o n
  refine ⟨?_, by rw [e]; exact fun t k => hv t (ht t (b1 t k)), by rw [e]; exact fun x => Nat.le_trans (b2 x) (hc x)⟩
  simp only [Rep]
  exact ⟨_, rfl, by rw [extract_toList]; exact h.piece o n, fun v hv => hs v (List.mem_of_mem_drop (List.mem_of_mem_take hv))⟩
theorem cellOf {cs : List V} {a : Array Value} (h : RepL S bl w cs a.toList) (hs : ∀ v ∈ cs, v.single = true) (hv : ∀ t ∈ vtips vals, TipOK S w t ∧ B ≤ t.blk) (ht : ∀ t ∈ tipsL cs a.toList, t ∈ vtips vals) (hc : ∀ x, (blks (tipsL cs a.toList)).count x ≤ (blks (vtips vals)).count x)
    {o : Nat} {v : V} (ho : cs[o]? = some v) : ∃ c, a[o]? = some c ∧ Rep S bl w v c ∧ (∀ t ∈ tips v c, TipOK S w t ∧ B ≤ t.blk) ∧ ∀ x, (blks (tips v c)).count x ≤ (blks (vtips vals)).count x := by
  obtain ⟨c, h1, h2⟩ := h.get ho
  have e : tips v c = tips1 v c := tips_single (.inr trivial) (.inl (hs v (List.mem_of_getElem? ho)))
  obtain ⟨b1, b2⟩ := tipsL_get ho h1
  rw [Array.getElem?_toList] at h1
  exact ⟨c, h1, h2, by rw [e]; exact fun t k => hv t (ht t (b1 t k)), by rw [e]; exact fun x => Nat.le_trans (b2 x) (hc x)⟩
theorem run_loadCells0 {ad : Addr} : (loadCells ad 0).run P w = .ok #[] w := by
  unfold loadCells loadCellsFrom; simp
theorem ntup_get {x : Option V} {r : V} (h : x.bind V.ntup = some r) : x = some r := by
  obtain ⟨u, hu, h⟩ := Option.bind_eq_some_iff.1 h
  cases u <;> first | (cases h; exact hu) | cases h
theorem vtips_one_agg (cs : List V) (a : Array Value) : vtips [(V.agg cs, Value.agg a)] = tipsL cs a.toList := by simp [vtips, tips, tips2]

theorem q_fld {t f off : Nat} {sz : Option Nat} {fs : Array Field} {g : Field} {p : V} {r : V} {a : Value} (h : St lim B F S bl [(p, a)] H w) (ht : P.underlying t = some (.struct fs)) (hf : fs[f]? = some g) (ho : g.offset = off)
    (hz : match sz with | none => (∃ d, P.underlying g.type = some d) ∧ isAggB P g.type = false | some n => isAggB P g.type = true ∧ szIs P g.type n = true) (hr : aFld off sz [p] = some r) : QuietK P B S bl w [(p, a)] r (Instr.field t a f) := by
  have h1 := h.rep _ (List.mem_cons_self ..)
  cases p <;> try (simp [aFld] at hr; done)
  rename_i cs
  obtain ⟨arr, rfl, h2, h3⟩ := h1.agg_inv
  have hv : ∀ t ∈ vtips [(V.agg cs, Value.agg arr)], TipOK S w t ∧ B ≤ t.blk := fun t k => h.tip t (.inl k)
  have run : ∀ c, (part g.type arr off).run P w = .ok c w → (Instr.field t (.agg arr) f).run P w = .ok c w := by
    intro c hc
    simp only [Instr.field, Sem.run_bind, run_und ht, Result.andThen_ok, hf, asAgg, Sem.run_pure, ho, hc]
  cases sz with
  | none =>
    simp only [aFld] at hr
    obtain ⟨⟨d, hd⟩, hag⟩ := hz
    have hr := ntup_get hr
    obtain ⟨c, b1, b2, b3, b4⟩ := cellOf h2 h3 hv (by rw [vtips_one_agg]; exact fun _ k => k) (by rw [vtips_one_agg]; exact fun _ => Nat.le_refl _) hr
    exact ⟨c, run _ (run_part1 hd hag b1), b2, b3, b4⟩
  | some n =>
    simp only [aFld] at hr
    split at hr
    · rename_i hle
      cases hr
      obtain ⟨b1, b2, b3⟩ := aggOf h2 h3 hv (by rw [vtips_one_agg]; exact fun _ k => k) (by rw [vtips_one_agg]; exact fun _ => Nat.le_refl _) off n hle
      exact ⟨_, run _ (run_partN hz.1 hz.2), b1, b2, b3⟩
    · cases hr
theorem q_ixv {t e sz len : Nat} {one : Bool} {d : TypeDesc} {p q : V} {r : V} {a b : Value} (h : St lim B F S bl [(p, a), (q, b)] H w) (ht : P.underlying t = some (.array len e)) (hz : szIs P e sz = true)
    (he : P.underlying e = some d) (hag : isAggB P e = !one) (hr : aIxv sz one len [p, q] = some r) : QuietK P B S bl w [(p, a), (q, b)] r (Instr.index t a b) := by
  have h1 := h.rep _ (List.mem_cons_self ..)
  have h1' := h.rep (q, b) (by simp)
  cases p <;> try (simp [aIxv] at hr; done)
  rename_i cs
  cases q <;> try (simp [aIxv] at hr; done)
  rename_i k i
  obtain ⟨arr, rfl, h2, h3⟩ := h1.agg_inv
  obtain rfl := Rep.int_inv h1'
  have hv : ∀ t ∈ vtips [(V.agg cs, Value.agg arr), (V.int k i, Value.int k i)], TipOK S w t ∧ B ≤ t.blk := fun t k => h.tip t (.inl k)
  have e1 : vtips [(V.agg cs, Value.agg arr), (V.int k i, Value.int k i)] = tipsL cs arr.toList := by simp [vtips, tips, tips2, tips1]
  simp only [aIxv] at hr
  split at hr
  · rename_i hi
    have run : ∀ c, (part e arr (i.toNat * sz)).run P w = .ok c w → (Instr.index t (.agg arr) (.int k i)).run P w = .ok c w := by
      intro c hc
      simp only [Instr.index, asIntOf, Sem.run_bind, Sem.run_pure, Result.andThen_ok, run_und ht, Sem.run_ite, if_pos hi, run_size hz, hc]
    cases one with
    | true =>
      simp only [if_true] at hr
      have hr := ntup_get hr
      obtain ⟨c, b1, b2, b3, b4⟩ := cellOf h2 h3 hv (by rw [e1]; exact fun _ k => k) (by rw [e1]; exact fun _ => Nat.le_refl _) hr
      exact ⟨c, run _ (run_part1 he (by simpa using hag) b1), b2, b3, b4⟩
    | false =>
      simp only [Bool.false_eq_true, if_false] at hr
      split at hr
      · rename_i hle
        cases hr
        obtain ⟨b1, b2, b3⟩ := aggOf h2 h3 hv (by rw [e1]; exact fun _ k => k) (by rw [e1]; exact fun _ => Nat.le_refl _) _ sz hle
        exact ⟨_, run _ (run_partN (by simpa using hag) hz), b1, b2, b3⟩
      · cases hr
  · cases hr

/-! ### Texts -/
theorem q_ixs {t : TypeId} {vs : List V} {r : V} {a b : Value} (hvs : RepL S bl w vs [a, b]) (ht : P.underlying t = some .string) (h : aIxs vs = some r) : Quiet P S bl w r (Instr.index t a b) := by
  obtain ⟨p, q, rfl, h1, h2⟩ := two_inv hvs
  cases p <;> try (simp [aIxs] at h; done)
  rename_i s
  cases q <;> try (simp [aIxs] at h; done)
  rename_i k i
  simp only [aIxs] at h
  split at h
  · rename_i hi
    obtain ⟨c, hc, rfl⟩ := Option.map_eq_some_iff.1 h
    obtain rfl := h1.str_inv
    obtain rfl := h2.int_inv
    refine ⟨.int .u8 c.toNat, ?_, rep_int .., rfl⟩
    have hg : (⟨s.toArray⟩ : ByteArray)[i.toNat]? = some c := by
      obtain ⟨hl, hc'⟩ := List.getElem?_eq_some_iff.1 hc
      rw [getElem?_pos _ _ (by simpa [ByteArray.size] using hl)]
      simp only [Option.some.injEq]
      rw [← hc']
      rfl
    simp only [Instr.index, asIntOf, Sem.run_bind, Sem.run_pure, Result.andThen_ok, run_und ht, if_pos hi, hg]
  · cases h
theorem q_lenS {t : TypeId} {vs : List V} {r : V} {a : Value} {ty : TypeId} {ats : Array TypeId} (hvs : RepL S bl w vs [a]) (hat : ats[0]? = some t) (ht : P.underlying t = some .string) (h : aLen true vs = some r) : Quiet P S bl w r (Builtin.len_ ats ty #[a]) := by
  obtain ⟨p, rfl, h1⟩ := one_inv hvs
  cases p <;> simp only [aLen] at h <;> cases h
  obtain rfl := h1.str_inv
  refine ⟨_, ?_, rep_int .., rfl⟩
  simp only [Builtin.len_, hat, Sem.run_bind, run_und ht, Result.andThen_ok, goInt, Sem.run_pure, List.getElem?_toArray, List.getElem?_cons_zero]
  simp [ByteArray.size]
theorem q_lenL {t e : TypeId} {vs : List V} {r : V} {a : Value} {ty : TypeId} {ats : Array TypeId} (hvs : RepL S bl w vs [a]) (hat : ats[0]? = some t) (ht : P.underlying t = some (.slice e)) (h : aLen false vs = some r) : Quiet P S bl w r (Builtin.len_ ats ty #[a]) := by
  obtain ⟨p, rfl, h1⟩ := one_inv hvs
  cases p <;> simp only [aLen] at h <;> cases h
  · simp only [Rep] at h1
    obtain ⟨ad, cap, rfl, _⟩ := h1
    refine ⟨_, ?_, rep_int .., rfl⟩
    simp [Builtin.len_, hat, run_und ht, goInt]
  · simp only [Rep] at h1
    obtain ⟨b, cap, _, _, rfl, _⟩ := h1
    refine ⟨_, ?_, rep_int .., rfl⟩
    simp [Builtin.len_, hat, run_und ht, goInt]
  · simp only [Rep] at h1
    subst h1
    refine ⟨_, ?_, rep_int .., rfl⟩
    simp [Builtin.len_, hat, run_und ht, goInt]

theorem run_bound {k : IntKind} {i : Int} {n : Nat} {code : BoundsCode} (h : 0 ≤ i ∧ i ≤ (n : Int)) : (Instr.sliceBound (.int k i) n code).run P w = .ok i.toNat w := by
  simp only [Instr.sliceBound, asIntOf, Sem.run_bind, Sem.run_pure, Result.andThen_ok, Sem.run_ite, if_pos h]
/-- The bounds of a piece, as the model reckons them. -/
theorem run_cutq {lo hi : Bool} {q n cap l h : Nat} {bs : List V} {olo ohi : Option Value} {sl : Bool} (hc : cutOf lo hi q bs = some (l, h)) (hq : hi = false → q = n) (hl : lo = olo.isSome) (hh : hi = ohi.isSome) (hbs : RepL S bl w bs (olo.toList ++ ohi.toList)) (hcap : q ≤ cap) :
    l ≤ h ∧ h ≤ q ∧ (Instr.sliceBounds sl n cap olo ohi none).run P w = .ok (l, h, cap) w := by
  cases olo with
  | none =>
    cases ohi with
    | none =>
      subst hl; subst hh
      obtain rfl := hq rfl
      simp only [Option.toList_none, List.append_nil, RepL] at hbs
      have : bs = [] := by cases bs <;> simp_all [RepL]
      subst this
      simp only [cutOf, Option.isSome_none, Option.some.injEq, Prod.mk.injEq] at hc
      obtain ⟨rfl, rfl⟩ := hc
      exact ⟨Nat.zero_le _, Nat.le_refl _, by simp [Instr.sliceBounds]⟩
    | some hv =>
      subst hl; subst hh
      simp only [Option.toList_none, Option.toList_some, List.nil_append] at hbs
      obtain ⟨p, rfl, h1⟩ := one_inv hbs
      cases p <;> try (simp [cutOf] at hc; done)
      rename_i k i
      simp only [cutOf, Option.isSome_none, Option.isSome_some] at hc
      split at hc
      · rename_i hi
        simp only [Option.some.injEq, Prod.mk.injEq] at hc
        obtain ⟨rfl, rfl⟩ := hc
        obtain rfl := h1.int_inv
        refine ⟨Nat.zero_le _, by omega, ?_⟩
        simp only [Instr.sliceBounds, Sem.run_bind, Sem.run_pure, Result.andThen_ok, run_bound (P := P) (w := w) (k := k) (i := i) (n := cap) (by omega)]
      · cases hc
  | some lv =>
    cases ohi with
    | none =>
      subst hl; subst hh
      obtain rfl := hq rfl
      simp only [Option.toList_none, Option.toList_some, List.append_nil] at hbs
      obtain ⟨p, rfl, h1⟩ := one_inv hbs
      cases p <;> try (simp [cutOf] at hc; done)
      rename_i k i
      simp only [cutOf, Option.isSome_none, Option.isSome_some] at hc
      split at hc
      · rename_i hi
        simp only [Option.some.injEq, Prod.mk.injEq] at hc
        obtain ⟨rfl, rfl⟩ := hc
        obtain rfl := h1.int_inv
        refine ⟨by omega, Nat.le_refl _, ?_⟩
        simp only [Instr.sliceBounds, Sem.run_bind, Sem.run_pure, Result.andThen_ok, run_bound (P := P) (w := w) (k := k) (i := i) (n := q) (by omega)]
      · cases hc
    | some hv =>
      subst hl; subst hh
      simp only [Option.toList_some, List.singleton_append] at hbs
      obtain ⟨p, q, rfl, h1, h2⟩ := two_inv hbs
      cases p <;> try (simp [cutOf] at hc; done)
      rename_i k i
      cases q <;> try (simp [cutOf] at hc; done)
      rename_i k' i'
      simp only [cutOf, Option.isSome_some] at hc
      split at hc
      · rename_i hi
        simp only [Option.some.injEq, Prod.mk.injEq] at hc
        obtain ⟨rfl, rfl⟩ := hc
        obtain rfl := h1.int_inv
        obtain rfl := h2.int_inv
        refine ⟨by omega, by omega, ?_⟩
        simp only [Instr.sliceBounds, Sem.run_bind, Sem.run_pure, Result.andThen_ok, run_bound (P := P) (w := w) (k := k') (i := i') (n := cap) (by omega), run_bound (P := P) (w := w) (k := k) (i := i) (n := i'.toNat) (by omega)]
      · cases hc

theorem run_cut {lo hi : Bool} {n cap l h : Nat} {bs : List V} {olo ohi : Option Value} {sl : Bool} (hc : cutOf lo hi n bs = some (l, h)) (hl : lo = olo.isSome) (hh : hi = ohi.isSome) (hbs : RepL S bl w bs (olo.toList ++ ohi.toList)) (hcap : n ≤ cap) :
    l ≤ h ∧ h ≤ n ∧ (Instr.sliceBounds sl n cap olo ohi none).run P w = .ok (l, h, cap) w := run_cutq hc (fun _ => rfl) hl hh hbs hcap

theorem q_sls {t : TypeId} {lo hi : Bool} {vs : List V} {r : V} {a : Value} {olo ohi : Option Value} (hvs : RepL S bl w vs (a :: (olo.toList ++ ohi.toList))) (ht : P.underlying t = some .string) (hl : lo = olo.isSome) (hh : hi = ohi.isSome) (h : aSls lo hi vs = some r) :
    Quiet P S bl w r (Instr.sliceAt t a olo ohi none) := by
  cases vs with
  | nil => simp [RepL] at hvs
  | cons p bs =>
    simp only [RepL] at hvs
    obtain ⟨c, rest, e, h1, h2⟩ := hvs
    simp only [List.cons.injEq] at e
    obtain ⟨rfl, rfl⟩ := e
    cases p <;> try (simp [aSls] at h; done)
    rename_i s
    simp only [aSls, Option.map_eq_some_iff] at h
    obtain ⟨⟨l, hgh⟩, hc, rfl⟩ := h
    obtain rfl := h1.str_inv
    obtain ⟨c1, c2, c3⟩ := run_cut (P := P) (sl := false) (cap := s.length) hc hl hh h2 (Nat.le_refl _)
    refine ⟨.string ((⟨s.toArray⟩ : ByteArray).extract l hgh), ?_, ?_, rfl⟩
    · simp only [Instr.sliceAt, Sem.run_bind, run_und ht, Result.andThen_ok, Instr.slice, Option.isSome_none, Bool.false_eq_true, Sem.run_ite, if_false]
      have : (⟨s.toArray⟩ : ByteArray).size = s.length := by simp [ByteArray.size]
      rw [this, c3]
      simp
    · simp only [Rep]
      exact ⟨_, rfl, by simp [List.extract]⟩
theorem q_slc {t e sz : Nat} {lo hi : Bool} {p : V} {bs : List V} {us : List Value} {r : V} {a : Value} {olo ohi : Option Value} (h : St lim B F S bl ((p, a) :: bs.zip us) H w) (hvs : RepL S bl w bs (olo.toList ++ ohi.toList)) (hus : us = olo.toList ++ ohi.toList)
    (ht : P.underlying t = some (.slice e)) (hz : szIs P e sz = true) (hl : lo = olo.isSome) (hh : hi = ohi.isSome) (hr : aSlc sz lo hi (p :: bs) = some r) :
    QuietK P B S bl w ((p, a) :: bs.zip us) r (Instr.sliceAt t a olo ohi none) := by
  have h1 := h.rep _ (List.mem_cons_self ..)
  cases p <;> try (simp [aSlc] at hr; done)
  · rename_i own n cs
    simp only [aSlc, Option.bind_eq_some_iff] at hr
    obtain ⟨⟨l, hgh⟩, hc, hr⟩ := hr
    split at hr
    · rename_i hcs
      cases hr
      simp only [Rep] at h1
      obtain ⟨ad, cap, rfl, hle, hnil, hC⟩ := h1
      obtain ⟨c1, c2, c3⟩ := run_cut (P := P) (sl := true) (cap := cap) hc hl hh hvs hle
      have run : (Instr.sliceAt t (.slice ad n cap) olo ohi none).run P w = .ok (.slice (if cap = l then ad else ad.map (·.add (l * sz))) (hgh - l) (cap - l)) w := by
        simp only [Instr.sliceAt, Sem.run_bind, run_und ht, Result.andThen_ok, Instr.slice, c3, run_size hz, Sem.run_pure]
      have hm1 : l * sz + (hgh - l) * sz = hgh * sz := by rw [← Nat.add_mul]; congr 1; omega
      have hm2 : hgh * sz ≤ n * sz := Nat.mul_le_mul_right sz c2
      refine ⟨_, run, ?_, ?_, ?_⟩
      · simp only [Rep]
        refine ⟨_, cap - l, rfl, by omega, fun hn => ?_, fun ad' had => ?_⟩
        · have hadn : ad = none := by
            split at hn
            · exact hn
            · simpa using hn
          subst hadn
          obtain ⟨q1, q2, q3⟩ := hnil rfl
          subst q3
          exact ⟨by omega, by omega, by simp⟩
        · split at had
          · subst had
            rename_i hcl
            obtain ⟨s1, s2⟩ := hC ad' rfl
            have : hgh - l = 0 := by omega
            refine ⟨fun q => by omega, ?_⟩
            rw [this]
            simp [RepC]
          · obtain ⟨ad0, rfl, rfl⟩ := Option.map_eq_some_iff.1 had
            obtain ⟨s1, s2⟩ := hC ad0 rfl
            rw [addr_eta (s1 (by omega)), add_none]
            exact ⟨fun _ => rfl, s2.piece (l * sz) ((hgh - l) * sz)⟩
      · intro tp htp
        by_cases hn : hgh = n ∧ own = some sz
        · obtain ⟨rfl, rfl⟩ := hn
          rw [if_pos ⟨rfl, rfl⟩] at htp
          cases ad with
          | none => simp [tips, tips2, tips1] at htp
          | some ad =>
            obtain ⟨s1, s2⟩ := hC ad rfl
            by_cases hcl : cap = l
            · have : cap - l ≤ hgh - l := by omega
              simp [tips, tips2, tips1, hcl, show l ≤ hgh by omega] at htp
            · rw [addr_eta (s1 (by omega))] at htp
              simp only [if_neg hcl, Option.map_some, add_none, tips, tips2, tips1] at htp
              split at htp
              · cases htp
              · rename_i hcap'
                simp at htp
                subst htp
                have ht0 := h.tip ⟨ad.block, ad.off, hgh, cap, sz⟩ (.inl (by simp [vtips, tips, tips2, tips1, show ¬ cap ≤ hgh by omega]))
                obtain ⟨⟨carr, e', lo', hi', q1, q2, q3⟩, q4, q5⟩ := ht0.1
                have e1 : l * sz + (cap - l) * sz = cap * sz := by rw [← Nat.add_mul]; congr 1; omega
                simp only at q1 q2 q3 q4
                exact ⟨⟨⟨carr, e', lo', hi', q1, by simp only; omega, fun o ho ho' => q3 o (by simp only at ho; omega) ho'⟩, fun o ho => q4 o (by simp only at ho; omega), by simp only; omega⟩, ht0.2⟩
        · rw [if_neg hn] at htp
          simp [tips, tips2, tips1] at htp
      · intro x
        by_cases hn : hgh = n ∧ own = some sz
        · obtain ⟨rfl, rfl⟩ := hn
          rw [if_pos ⟨rfl, rfl⟩]
          cases ad with
          | none => simp [tips, tips2, tips1, blks]
          | some ad =>
            obtain ⟨s1, s2⟩ := hC ad rfl
            by_cases hcl : cap = l
            · simp [tips, tips2, tips1, blks, hcl, show l ≤ hgh by omega]
            · by_cases hcg : cap ≤ hgh
              · rw [addr_eta (s1 (by omega))]
                simp [tips, tips2, tips1, blks, vtips, hcl, add_none, show cap - l ≤ hgh - l by omega]
              · rw [addr_eta (s1 (by omega))]
                simp [tips, tips2, tips1, blks, vtips, hcl, add_none, hcg, show ¬ cap - l ≤ hgh - l by omega, List.count_cons]
        · rw [if_neg hn]
          simp [tips, tips2, tips1, blks]
    · cases hr
  · rename_i sz' id off n k
    simp only [aSlc, Option.bind_eq_some_iff] at hr
    obtain ⟨⟨l, hgh⟩, hc, hr⟩ := hr
    simp only at hr
    split at hr
    · rename_i hzz
      subst hzz
      simp only [Rep] at h1
      obtain ⟨b, cap, hb, ⟨hnk, hle⟩, rfl, hfit⟩ := h1
      obtain ⟨c1, c2, c3⟩ := run_cutq (P := P) (sl := true) (cap := cap) (n := n) hc (fun e => by rw [e]; rfl) hl hh hvs (by split <;> omega)
      have c4 : hgh ≤ k := by split at c2 <;> omega
      have run : (Instr.sliceAt t (.slice (some ⟨b, off, none⟩) n cap) olo ohi none).run P w = .ok (.slice (if cap = l then some ⟨b, off, none⟩ else some ⟨b, off + l * sz', none⟩) (hgh - l) (cap - l)) w := by
        simp only [Instr.sliceAt, Sem.run_bind, run_und ht, Result.andThen_ok, Instr.slice, c3, run_size hz, Sem.run_pure]
        simp [add_none]
      have hm : l * sz' + (cap - l) * sz' = cap * sz' := by rw [← Nat.add_mul]; congr 1; omega
      split at hr
      · rename_i hlk
        cases hr
        refine ⟨_, run, ?_, ?_, ?_⟩
        · have e : (if cap = l then some (⟨b, off, none⟩ : Addr) else some ⟨b, off + l * sz', none⟩) = some ⟨b, off + l * sz', none⟩ := by
            split
            · rename_i e1
              have : l = 0 := by omega
              subst this; simp
            · rfl
          rw [e]
          simp only [Rep]
          exact ⟨b, cap - l, hb, ⟨by omega, by omega⟩, rfl, hfit.le (by omega)⟩
        · intro tp htp; simp [tips, tips2, tips1] at htp
        · intro x; simp [tips, tips2, tips1, blks]
      · cases hr
        refine ⟨_, run, ?_, ?_, ?_⟩
        · simp only [Rep]
          refine ⟨_, cap - l, by rw [show hgh - l = 0 by omega], Nat.zero_le _, (fun e => by split at e <;> cases e), fun ad had => ?_⟩
          refine ⟨fun _ => by split at had <;> (cases had; rfl), ?_⟩
          simp only [RepC]
        · intro tp htp; simp [tips, tips2, tips1] at htp
        · intro x; simp [tips, tips2, tips1, blks]
    · cases hr
theorem q_sl3 {t e sz : Nat} {vs : List V} {r : V} {a lo hi mx : Value} (hvs : RepL S bl w vs [a, lo, hi, mx]) (ht : P.underlying t = some (.slice e)) (hz : szIs P e sz = true) (hr : aSl3 sz vs = some r) :
    Quiet P S bl w r (Instr.sliceAt t a (some lo) (some hi) (some mx)) := by
  match vs, hvs with
  | [p, q1, q2, q3], hvs =>
    simp only [RepL] at hvs
    obtain ⟨_, _, e1, h1, _, _, e2, h2, _, _, e3, h3, _, _, e4, h4, rfl⟩ := hvs
    cases e1; cases e2; cases e3; cases e4
    cases p <;> try (simp [aSl3] at hr; done)
    cases q1 <;> try (simp [aSl3] at hr; done)
    cases q2 <;> try (simp [aSl3] at hr; done)
    cases q3 <;> try (simp [aSl3] at hr; done)
    rename_i sz' id off n k k1 i k2 j k3 m
    simp only [aSl3] at hr
    split at hr
    · rename_i hc
      obtain ⟨rfl, i0, i1, i2, i3⟩ := hc
      simp only [Rep] at h1
      obtain ⟨b, cap, hb, ⟨hnk, hle⟩, rfl, hfit⟩ := h1
      obtain rfl := h2.int_inv
      obtain rfl := h3.int_inv
      obtain rfl := h4.int_inv
      have run : (Instr.sliceAt t (.slice (some ⟨b, off, none⟩) n cap) (some (.int k1 i)) (some (.int k2 j)) (some (.int k3 m))).run P w = .ok (.slice (if m.toNat = i.toNat then some ⟨b, off, none⟩ else some ⟨b, off + i.toNat * sz', none⟩) (j.toNat - i.toNat) (m.toNat - i.toNat)) w := by
        have b1 := run_bound (P := P) (w := w) (k := k3) (i := m) (n := cap) (code := .slice3Acap) (by omega)
        have b2 := run_bound (P := P) (w := w) (k := k2) (i := j) (n := m.toNat) (code := .slice3B) (by omega)
        have b3 := run_bound (P := P) (w := w) (k := k1) (i := i) (n := j.toNat) (code := .slice3C) (by omega)
        have hb : (Instr.sliceBounds true n cap (some (.int k1 i)) (some (.int k2 j)) (some (.int k3 m))).run P w = .ok (i.toNat, j.toNat, m.toNat) w := by
          simp only [Instr.sliceBounds, if_true, Sem.run_bind, b1, Result.andThen_ok, b2, Option.isSome_some, b3, Sem.run_pure]
        simp only [Instr.sliceAt, Sem.run_bind, run_und ht, Result.andThen_ok, Instr.slice, hb, run_size hz, Sem.run_pure]
        simp [add_none]
      have hm : i.toNat * sz' + (m.toNat - i.toNat) * sz' = m.toNat * sz' := by rw [← Nat.add_mul]; congr 1; omega
      have hm2 : m.toNat * sz' ≤ cap * sz' := Nat.mul_le_mul_right _ (by omega)
      split at hr
      · rename_i hlk
        cases hr
        have e : (if m.toNat = i.toNat then some (⟨b, off, none⟩ : Addr) else some ⟨b, off + i.toNat * sz', none⟩) = some ⟨b, off + i.toNat * sz', none⟩ := by
          split
          · rename_i e1
            have : i = 0 := by omega
            subst this; simp
          · rfl
        refine ⟨_, run, ?_, rfl⟩
        rw [e]
        simp only [Rep]
        exact ⟨b, m.toNat - i.toNat, hb, ⟨by omega, by omega⟩, rfl, hfit.le (by omega)⟩
      · cases hr
        refine ⟨_, run, ?_, rfl⟩
        simp only [Rep]
        refine ⟨_, m.toNat - i.toNat, by rw [show j.toNat - i.toNat = 0 by omega], Nat.zero_le _, (fun e => by split at e <;> cases e), fun ad had => ?_⟩
        refine ⟨fun _ => by split at had <;> (cases had; rfl), ?_⟩
        simp only [RepC]
    · cases hr

/-! ### Numbers, texts and bytes -/
theorem q_mxn {le : Int → Int → Bool} {f : Value → Value → Sem Value} (hf : ∀ k x j y, (f (.int k x) (.int j y)).run P w = .ok (.int k (if le x y then y else x)) w) :
    ∀ {vs : List V} {cs : List Value} {v r : V} {c : Value}, Rep S bl w v c → RepL S bl w vs cs → (∃ k n, v = .int k n) → mxn le v vs = some r → Quiet P S bl w r (cs.foldlM f c)
  | [], cs, v, r, c, hv, hvs, hi, h => by
    obtain ⟨k, n, rfl⟩ := hi
    simp only [mxn, Option.some.injEq] at h; subst h
    have : cs = [] := by simpa [RepL] using hvs
    subst this
    obtain rfl := hv.int_inv
    exact ⟨_, rfl, rep_int .., rfl⟩
  | u :: vs, cs, v, r, c, hv, hvs, hi, h => by
    obtain ⟨k, n, rfl⟩ := hi
    simp only [RepL] at hvs
    obtain ⟨d, rest, rfl, h1, h2⟩ := hvs
    cases u <;> try (simp [mxn] at h; done)
    rename_i j m
    simp only [mxn] at h
    obtain rfl := hv.int_inv
    obtain rfl := h1.int_inv
    obtain ⟨c', q1, q2, q3⟩ := q_mxn hf (rep_int S bl w k (if le n m then m else n)) h2 ⟨_, _, rfl⟩ h
    exact ⟨c', by simp only [List.foldlM_cons, Sem.run_bind, hf, Result.andThen_ok, q1], q2, q3⟩
theorem mxn_int {le : Int → Int → Bool} {v r : V} : ∀ {vs : List V}, mxn le v vs = some r → vs ≠ [] → ∃ k n, v = .int k n
  | [], _, h => absurd rfl h
  | u :: vs, h, _ => by cases v <;> first | exact ⟨_, _, rfl⟩ | (simp [mxn] at h)
theorem q_cvi {s d : TypeId} {k j : IntKind} {vs : List V} {r : V} {a : Value} (hvs : RepL S bl w vs [a]) (hs : P.underlying s = some (.int j)) (hd : P.underlying d = some (.int k)) (h : aCvi k vs = some r) : Quiet P S bl w r (convert s d a) := by
  obtain ⟨p, rfl, h1⟩ := one_inv hvs
  cases p <;> simp only [aCvi] at h <;> cases h
  obtain rfl := h1.int_inv
  exact ⟨_, by simp only [convert, Sem.run_bind, run_und hs, run_und hd, Result.andThen_ok]; rfl, rep_int .., rfl⟩
theorem q_cvs {s d : TypeId} {vs : List V} {r : V} {a : Value} (hvs : RepL S bl w vs [a]) (hs : P.underlying s = some .string) (hd : P.underlying d = some .string) (h : aCvs vs = some r) : Quiet P S bl w r (convert s d a) := by
  obtain ⟨p, rfl, h1⟩ := one_inv hvs
  cases p <;> simp only [aCvs] at h <;> cases h
  have h2 := h1
  obtain rfl := h1.str_inv
  exact ⟨_, by simp only [convert, Sem.run_bind, run_und hs, run_und hd, Result.andThen_ok]; rfl, h2, rfl⟩
theorem bytesOf_inv {S bl w} : ∀ {vs : List V} {cs : List Value} {s : List UInt8}, RepL S bl w vs cs → bytesOf vs = some s → ∃ ns : List Int, cs = ns.map (Value.int .u8) ∧ s = ns.map fun n => UInt8.ofNat n.toNat
  | [], cs, s, h, hb => by simp only [bytesOf, Option.some.injEq] at hb; subst hb; have : cs = [] := by simpa [RepL] using h
                           subst this; exact ⟨[], rfl, rfl⟩
  | v :: vs, cs, s, h, hb => by
    simp only [RepL] at h
    obtain ⟨c, r, rfl, h1, h2⟩ := h
    cases v <;> try (simp [bytesOf] at hb; done)
    rename_i k n
    cases k <;> try (simp [bytesOf] at hb; done)
    simp only [bytesOf, Option.map_eq_some_iff] at hb
    obtain ⟨s', hs', rfl⟩ := hb
    obtain ⟨ns, rfl, rfl⟩ := bytesOf_inv h2 hs'
    obtain rfl := h1.int_inv
    exact ⟨n :: ns, rfl, rfl⟩
theorem foldl_push (ns : List Int) : ∀ s : ByteArray, (ns.foldl (fun r n => r.push (UInt8.ofNat n.toNat)) s).data.toList = s.data.toList ++ ns.map fun n => UInt8.ofNat n.toNat := by
  induction ns with
  | nil => intro s; simp
  | cons n ns ih => intro s; simp only [List.foldl_cons, ih, List.map_cons]; simp [ByteArray.push]
theorem q_b2s {s d e : TypeId} {vs : List V} {r : V} {a : Value} (hvs : RepL S bl w vs [a]) (hs : P.underlying s = some (.slice e)) (he : P.underlying e = some (.int .u8)) (hd : P.underlying d = some .string) (h : aB2s vs = some r) : Quiet P S bl w r (convert s d a) := by
  obtain ⟨p, rfl, h1⟩ := one_inv hvs
  cases p <;> try (simp [aB2s] at h; done)
  rename_i own n cs
  simp only [aB2s] at h
  split at h
  · rename_i hn
    obtain ⟨l, hl, rfl⟩ := Option.map_eq_some_iff.1 h
    simp only [Rep] at h1
    obtain ⟨ad, cap, rfl, hle, hnil, hC⟩ := h1
    cases ad with
    | none =>
      obtain ⟨rfl, rfl, rfl⟩ := hnil rfl
      simp only [bytesOf, Option.some.injEq] at hl; subst hl
      exact ⟨.string .empty, by rw [run_convert_bytes_string w s d e _ _ _ hs he hd]; rfl, by simp only [Rep]; exact ⟨_, rfl, rfl⟩, rfl⟩
    | some ad =>
      obtain ⟨s1, s2⟩ := hC ad rfl
      obtain ⟨ds, a1, a2, a3⟩ := s2.cells
      obtain ⟨ns, rfl, rfl⟩ := bytesOf_inv a1 hl
      have hlen := ((RepL_iff _ _).1 a1).1
      have hload : (loadCells ad n).run P w = .ok (ns.map (Value.int .u8)).toArray w := by
        by_cases hc0 : cap = 0
        · obtain rfl : n = 0 := by omega
          obtain rfl : ns = [] := List.length_eq_zero_iff.1 (by simp at hlen; omega)
          exact run_loadCells0
        · rw [addr_eta (s1 hc0)]
          exact run_loadCells P (by omega) fun j c hj => (a2 j c hj).1
      refine ⟨_, by rw [run_convert_bytes_string w s d e _ _ _ hs he hd]; exact run_bytesToString w ad n cap ns hload, ?_, rfl⟩
      simp only [Rep]
      exact ⟨_, rfl, by rw [foldl_push]; rfl⟩
  · cases h

/-! ### Interfaces, tuples, functions -/
theorem q_mif {t : TypeId} {d : TypeDesc} {p : V} {r : V} {a : Value} (h1 : Rep S bl w p a) (ht : P.underlying t = some d) (hd : ∀ ms, d ≠ .interface ms) (h : aMif t [p] = some r) : Quiet P S bl w r (Instr.makeInterface t a) := by
  simp only [aMif] at h
  split at h
  · rename_i hv
    cases h
    refine ⟨.iface t a, ?_, by simp only [Rep]; exact ⟨a, rfl, h1, hv⟩, rfl⟩
    simp only [Instr.makeInterface, Sem.run_bind, run_und ht, Result.andThen_ok]
    cases d <;> first | rfl | exact absurd rfl (hd _)
  · cases h
theorem rep_pair {v u : V} {c d : Value} (h1 : Rep S bl w v c) (h2 : Rep S bl w u d) (n1 : v.noVia = true) (n2 : u.noVia = true) : Rep S bl w (.tup [v, u]) (.tuple #[c, d]) := by
  simp only [Rep]
  refine ⟨_, rfl, by simp only [RepL]; exact ⟨c, [d], rfl, h1, d, [], rfl, h2, rfl⟩, fun x hx => ?_⟩
  simp at hx
  rcases hx with rfl | rfl <;> assumption
theorem tips_pair {v u : V} {c d : Value} (h1 : tips2 v c = []) (h2 : tips2 u d = []) : tips (.tup [v, u]) (.tuple #[c, d]) = [] := by
  show tipsM [v, u] [c, d] = []
  simp [tipsM, h1, h2]
theorem okV_noVia {v : V} {c : Value} (h : okV c v = true) : v.noVia = true := by
  cases v <;> first | rfl | (simp [okV] at h)
theorem okV_tips2 {v : V} {c : Value} (h : okV c v = true) : tips2 v c = [] := by
  have := okV_tips v c h
  cases v with
  | tup l => rw [okV.eq_def] at h; dsimp only at h; split at h <;> first | rfl | cases h
  | _ => exact this
theorem q_tas {xt t : TypeId} {d : TypeDesc} {ok : Bool} {zero : V} {vs : List V} {r : V} {a : Value} (hvs : RepL S bl w vs [a]) (ht : P.underlying t = some d) (hd : ∀ ms, d ≠ .interface ms) (hz : zeroV1 P t zero = true) (h : aTas t ok zero vs = some r) :
    Quiet P S bl w r (Instr.typeAssert a xt t ok) := by
  obtain ⟨p, rfl, h1⟩ := one_inv hvs
  obtain ⟨z, hz1, hz2⟩ := run_zero1 (w := w) hz
  have fail : (∀ (x y : Option TypeId) (s : String), ok = true → (if ok then (do pure (.tuple #[← zeroValue t, .bool false])) else runtimePanic (.typeAssertion x y t s) : Sem Value).run P w = .ok (.tuple #[z, .bool false]) w) := by
    intro x y s hok; subst hok; simp only [if_true, Sem.run_bind, hz1, Result.andThen_ok, Sem.run_pure]
  have hrz : Rep S bl w (.tup [zero, .bool false]) (.tuple #[z, .bool false]) := rep_pair (okV_rep _ _ hz2) (rep_bool ..) (okV_noVia hz2) rfl
  have htz : tips (.tup [zero, .bool false]) (.tuple #[z, .bool false]) = [] := tips_pair (okV_tips2 hz2) rfl
  cases p <;> try (simp [aTas] at h; done)
  · rename_i t' v
    simp only [Rep] at h1
    obtain ⟨u, rfl, h2, h3⟩ := h1
    simp only [aTas] at h
    by_cases he : t' = t
    · rw [if_pos he] at h
      cases h
      subst he
      have run : (Instr.typeAssert (.iface t' u) xt t' ok).run P w = .ok (if ok then .tuple #[u, .bool true] else u) w := by
        simp only [Instr.typeAssert, Sem.run_bind, run_und ht, Result.andThen_ok]
        cases d <;> first | exact absurd rfl (hd _) | simp
      cases ok
      · exact ⟨_, run, h2.dis, tips_dis _ _⟩
      · exact ⟨_, run, rep_pair h2.dis2 (rep_bool ..) (V.dis2_noVia _) rfl, tips_pair (tips2_dis2 _ _) rfl⟩
    · rw [if_neg he] at h
      split at h
      · rename_i hok
        cases h
        refine ⟨_, ?_, hrz, htz⟩
        simp only [Instr.typeAssert, Sem.run_bind, run_und ht, Result.andThen_ok]
        cases d <;> first | exact absurd rfl (hd _) | (simp only [Sem.run_ite, if_neg he, hok, if_true, Sem.run_bind, hz1, Result.andThen_ok, Sem.run_pure])
      · cases h
  · simp only [Rep] at h1; subst h1
    simp only [aTas] at h
    split at h
    · rename_i hok
      cases h
      refine ⟨_, ?_, hrz, htz⟩
      simp only [Instr.typeAssert, Sem.run_bind, run_und ht, Result.andThen_ok]
      cases d <;> first | exact absurd rfl (hd _) | exact fail _ _ _ hok
    · cases h
theorem q_tai {xt t : TypeId} {want : Array (String × TypeId)} {ts ns : List TypeId} {ok : Bool} {vs : List V} {r : V} {a : Value} (hvs : RepL S bl w vs [a]) (ht : P.underlying t = some (.interface want)) (hz : zeroV1 P t .nili = true)
    (hts : ∀ u, ts.contains u = true → ∃ i, P.info? u = some i ∧ Instr.missingMethod want i.methods = none) (hns : ∀ u, ns.contains u = true → ∃ i m, P.info? u = some i ∧ Instr.missingMethod want i.methods = some m) (h : aTai ts ns ok vs = some r) :
    Quiet P S bl w r (Instr.typeAssert a xt t ok) := by
  obtain ⟨p, rfl, h1⟩ := one_inv hvs
  obtain ⟨z, hz1, hz2⟩ := run_zero1 (w := w) hz
  have hrz : Rep S bl w (.tup [.nili, .bool false]) (.tuple #[z, .bool false]) := rep_pair (okV_rep _ _ hz2) (rep_bool ..) rfl rfl
  have htz : tips (.tup [.nili, .bool false]) (.tuple #[z, .bool false]) = [] := tips_pair rfl rfl
  cases p <;> try (simp [aTai] at h; done)
  · rename_i t' v
    have h1' := h1
    simp only [Rep] at h1
    obtain ⟨u, rfl, h2, h3⟩ := h1
    simp only [aTai] at h
    by_cases he : ts.contains t' = true
    · rw [if_pos he] at h
      cases h
      obtain ⟨i, hi, hm⟩ := hts t' he
      have run : (Instr.typeAssert (.iface t' u) xt t ok).run P w = .ok (if ok then .tuple #[.iface t' u, .bool true] else .iface t' u) w := by
        simp only [Instr.typeAssert, Sem.run_bind, run_und ht, Result.andThen_ok, run_info hi, hm, Sem.run_pure]
      cases ok
      · exact ⟨_, run, h1', rfl⟩
      · exact ⟨_, run, rep_pair h1' (rep_bool ..) rfl rfl, tips_pair rfl rfl⟩
    · rw [if_neg he] at h
      split at h
      · rename_i hok
        cases h
        simp only [Bool.and_eq_true] at hok
        obtain ⟨hn, hok⟩ := hok
        refine ⟨_, ?_, hrz, htz⟩
        obtain ⟨i, m, hi, hm⟩ := hns t' hn
        simp only [Instr.typeAssert, Sem.run_bind, run_und ht, Result.andThen_ok, run_info hi, hm, Sem.run_ite, hok, if_true, hz1, Sem.run_pure]
      · cases h
  · simp only [Rep] at h1; subst h1
    simp only [aTai] at h
    split at h
    · rename_i hok
      cases h
      refine ⟨_, ?_, hrz, htz⟩
      simp only [Instr.typeAssert, Sem.run_bind, run_und ht, Result.andThen_ok, Sem.run_ite, hok, if_true, hz1, Sem.run_pure]
    · cases h
theorem tipsM_get : ∀ {vs : List V} {cs : List Value} {i : Nat} {v : V} {c : Value}, vs[i]? = some v → cs[i]? = some c → (∀ t ∈ tips2 v c, t ∈ tipsM vs cs) ∧ ∀ x, (blks (tips2 v c)).count x ≤ (blks (tipsM vs cs)).count x
  | [], _, _, _, _, h, _ => by simp at h
  | _ :: _, [], _, _, _, _, h => by simp at h
  | u :: vs, d :: cs, 0, v, c, h, k => by
    simp at h k; subst h; subst k
    exact ⟨fun t ht => List.mem_append_left _ ht, fun x => by simp only [tipsM, blks, List.map_append, List.count_append]; omega⟩
  | u :: vs, d :: cs, i + 1, v, c, h, k => by
    obtain ⟨a1, a2⟩ := tipsM_get (vs := vs) (cs := cs) (i := i) (v := v) (c := c) (by simpa using h) (by simpa using k)
    exact ⟨fun t ht => List.mem_append_right _ (a1 t ht), fun x => by have := a2 x; simp only [tipsM, blks, List.map_append, List.count_append] at this ⊢; omega⟩
theorem q_ext {i : Nat} {vs : List V} {p r : V} {a : Value} (h : St lim B F S bl [(p, a)] H w) (hr : aExt i [p] = some r) : QuietK P B S bl w [(p, a)] r (Instr.extract a i) := by
  have h1 := h.rep _ (List.mem_cons_self ..)
  cases p <;> try (simp [aExt] at hr; done)
  rename_i us
  simp only [aExt, Option.bind_eq_some_iff] at hr
  obtain ⟨r', hr, hr1⟩ := hr
  obtain ⟨rfl, hr2⟩ : r = r' ∧ ∀ us, r' ≠ .tup us := by cases r' <;> simp only [V.ntup] at hr1 <;> cases hr1 <;> exact ⟨rfl, fun us e => by cases e⟩
  simp only [Rep] at h1
  obtain ⟨arr, rfl, h2, h3⟩ := h1
  obtain ⟨c, c1, c2⟩ := h2.get hr
  have e : tips r c = tips2 r c := by cases r <;> first | rfl | exact absurd rfl (hr2 _)
  have e2 : vtips [(V.tup us, Value.tuple arr)] = tipsM us arr.toList := by simp [vtips, tips]
  obtain ⟨b1, b2⟩ := tipsM_get hr c1
  rw [Array.getElem?_toList] at c1
  refine ⟨c, by simp only [Instr.extract, c1, Sem.run_pure], c2, ?_, ?_⟩
  · rw [e]; exact fun t ht => h.tip t (.inl (by rw [e2]; exact b1 t ht))
  · rw [e, e2]; exact b2
theorem q_mkf {f : FuncId} {vs : List V} {cs : Array Value} (hvs : RepL S bl w vs cs.toList) (hs : vs.all V.single = true) : Quiet P S bl w (.fn f vs) (Instr.makeFunc (.func f) #[] cs) :=
  ⟨_, rfl, by simp only [Rep]; exact ⟨cs, rfl, hvs, fun v hv => List.all_eq_true.1 hs v hv⟩, rfl⟩
end
end Go.Abs
