/-
  Each operation of AbsA does what GoSem's does: stores, texts as bytes; then all operations together.
-/
import Derived.Test.YtcfefgeheibadaaAbsZ
namespace Go.Abs
open Go.RowKit (Below)
set_option linter.unusedVariables false
set_option linter.unusedSimpArgs false

section
variable {P : Program} {lim : Option Nat} {B : Nat} {F : List Nat} {S : Nat → Nat → Prop} {bl : List Nat} {vals : List (V × Value)} {H : Heap} {w : World}

/-! ### Stores -/
theorem lay_cons {cs xs : List V} {o : Nat} {v : V} (h : o < cs.length) : lay (cs.set o v) (o + 1) xs = lay cs o (v :: xs) := by
  unfold lay
  have h1 : (cs.set o v).take (o + 1) = cs.take o ++ [v] := by
    rw [List.take_set, List.take_succ_eq_append_getElem h, List.set_append_right _ _ (by simp; omega)]
    simp only [List.length_take]
    rw [show o - min o cs.length = 0 by omega]
    rfl
  rw [h1, List.drop_set_of_lt (by omega)]
  simp [List.append_assoc, show o + 1 + xs.length = o + (xs.length + 1) by omega]
theorem setObjs {id b : Nat} (hb : bl[id]? = some b) : ∀ (xs : List V) (ds : List Value) (o : Nat) (H : Heap) (w : World) (cs : List V), St lim B (F ++ blks (tipsL xs ds)) S bl vals H w → (∀ p ∈ vals, p.1.noVia = true) →
    H[id]? = some cs → o + xs.length ≤ cs.length → RepL S bl w xs ds → (∀ v ∈ xs, v.single = true) → (∀ t ∈ tipsL xs ds, TipOK S w t) → mayW lim id (V.rbL · xs) = true →
    St lim B F S bl vals (H.set id (lay cs o xs)) (setCells w b o ds) ∧ Ext lim B F S bl H w S bl (H.set id (lay cs o xs)) (setCells w b o ds)
  | [], ds, o, H, w, cs, h, hv, hH, hle, hr, hs, ht, hl => by
    have : ds = [] := by simpa [RepL] using hr
    subst this
    have e : H.set id (lay cs o []) = H := by
      have : lay cs o [] = cs := by simp [lay]
      rw [this]
      refine List.ext_getElem? fun j => ?_
      rw [List.getElem?_set]
      by_cases hj : id = j
      · subst hj; rw [if_pos rfl, if_pos (List.getElem?_eq_some_iff.1 hH).1, hH]
      · rw [if_neg hj]
    rw [e]
    exact ⟨by simpa [tipsL, setCells] using h, by simpa [setCells] using Ext.refl _ _ _ _ _ _ _⟩
  | v :: xs, [], o, H, w, cs, h, hv, hH, hle, hr, hs, ht, hl => by simp [RepL] at hr
  | v :: xs, c :: ds, o, H, w, cs, h, hv, hH, hle, hr, hs, ht, hl => by
    simp only [RepL] at hr
    obtain ⟨_, _, e, h1, h2⟩ := hr
    simp only [List.cons.injEq] at e
    obtain ⟨rfl, rfl⟩ := e
    simp only [List.length_cons] at hle
    have h0 : St lim B ((F ++ blks (tipsL xs ds)) ++ blks (tips1 v c)) S bl vals H w := h.unframe fun x => by simp only [tipsL, blks, List.map_append, List.count_append]; omega
    have ho : o < cs.length := by omega
    have hg : (hget H id o).isSome = true := by simp [hget, hH, List.getElem?_eq_getElem ho]
    have hset' : hset H id o v = H.set id (cs.set o v) := by simp [hset, hH]
    obtain ⟨g1, g2⟩ := h0.setObj (o := o) hv hg hb (hs v (List.mem_cons_self ..)) h1 (fun t k => ht t (List.mem_append_left _ k)) (by
      cases lim with
      | none => rfl
      | some l =>
        simp only [mayW, V.rbL, Bool.and_eq_true] at hl ⊢
        exact ⟨hl.1, hl.2.1⟩)
    rw [hset'] at g1 g2
    have hid : id < H.length := (List.getElem?_eq_some_iff.1 hH).1
    obtain ⟨k1, k2⟩ := setObjs hb xs ds (o + 1) (H.set id (cs.set o v)) _ (cs.set o v) g1 hv (by rw [List.getElem?_set_self hid]) (by simp; omega) (RepL.mono g2.keeps (fun _ _ e => e) xs ds (fun u hu => V.noVia_of_single (hs u (List.mem_cons_of_mem _ hu))) h2) (fun u hu => hs u (List.mem_cons_of_mem _ hu))
      (fun t k => (ht t (List.mem_append_right _ k)).mono (g2.frame t.blk (List.mem_append_right _ (List.mem_map.2 ⟨t, k, rfl⟩))).1 fun _ x => x) (by
      cases lim with
      | none => rfl
      | some l =>
        simp only [mayW, V.rbL, Bool.and_eq_true] at hl ⊢
        exact ⟨hl.1, hl.2.2⟩)
    rw [lay_cons ho, List.set_set] at k1 k2
    exact ⟨k1, (g2.less fun x hx => List.mem_append_left _ hx).trans k2⟩

theorem good_st {t : TypeId} {p q r : V} {H' : Heap} {a b : Value} (h : St lim B F S bl [(p, a), (q, b)] H w) (hsz : szIs P t 1 = true) (hr : aSt lim H [p, q] = some (r, H')) :
    Good P lim B F S bl H w r H' ((do Instr.storeAt t a b; pure .skip : Sem Next).run P w) := by
  have h1 : Rep S bl w p a := h.rep _ (List.mem_cons_self ..)
  have h2 : Rep S bl w q b := h.rep (q, b) (by simp)
  cases p <;> try (simp [aSt] at hr; done)
  rename_i id o
  simp only [aSt] at hr
  split at hr
  · rename_i hc
    simp only [Bool.and_eq_true] at hc
    obtain ⟨⟨c1, c2⟩, c3⟩ := hc
    cases hr
    obtain ⟨bb, hb, rfl⟩ := h1.ptr_inv
    obtain ⟨o1, o2⟩ := h2.oneCell c1
    have htip : tips q b = tips1 q b := tips_single (.inr trivial) (.inl c1)
    have h0 : St lim B (F ++ blks (tips1 q b)) S bl [] H w := by
      have := St.rem (us := [(q, b)]) (vals := []) (by simpa using h.drop)
      simpa [vtips, htip] using this
    obtain ⟨g1, g2⟩ := h0.setObj (fun p hp => by cases hp) c2 hb c1 h2 (fun t k => (h.tip t (.inl (by simp [vtips, htip, k]))).1) c3
    obtain ⟨old, hold⟩ := Option.isSome_iff_exists.1 c2
    obtain ⟨cs, hH, ho⟩ := Option.bind_eq_some_iff.1 (show (H[id]?).bind (·[o]?) = some old from hold)
    obtain ⟨carr, e, lo, hi, q1, q2, q3⟩ := (h.obj id cs bb hH hb).ex
    have hoc := (List.getElem?_eq_some_iff.1 ho).1
    have hrun := run_storeCells P (b := bb) (o := o) [b] 0 w carr e lo hi q1 (by simp; omega) (fun j _ hj => q3 j hj) (fun v hv => by simp at hv; subst hv; exact o1)
    refine ⟨undef, _, _, _, .inr ⟨?_, rfl⟩, g1.add0 (by simp only [Rep, undef]; exact ⟨#[], rfl, by simp [RepL], by simp⟩) rfl, g2⟩
    simp only [Instr.storeAt, Instr.sureAddr, Sem.run_bind, Sem.run_pure, Result.andThen_ok, storeVar, run_size hsz, o2]
    simp only [List.size_toArray, List.length_cons, List.length_nil, ne_eq, Nat.zero_add, not_true_eq_false, if_false, hrun, Result.andThen_ok]
    rfl
  · cases hr
theorem good_stn {t n : Nat} {p q r : V} {H' : Heap} {a b : Value} (h : St lim B F S bl [(p, a), (q, b)] H w) (hsz : szIs P t n = true) (hr : aStn lim n H [p, q] = some (r, H')) :
    Good P lim B F S bl H w r H' ((do Instr.storeAt t a b; pure .skip : Sem Next).run P w) := by
  have h1 : Rep S bl w p a := h.rep _ (List.mem_cons_self ..)
  have h2 : Rep S bl w q b := h.rep (q, b) (by simp)
  cases p <;> try (simp [aStn] at hr; done)
  rename_i id o
  cases q <;> try (simp [aStn] at hr; done)
  rename_i xs
  simp only [aStn] at hr
  split at hr
  · rename_i hc
    simp only [Bool.and_eq_true, decide_eq_true_eq] at hc
    obtain ⟨⟨c1, c2⟩, c3⟩ := hc
    cases hr
    obtain ⟨bb, hb, rfl⟩ := h1.ptr_inv
    obtain ⟨arr, rfl, e1, e2⟩ := h2.agg_inv
    have hl := ((RepL_iff _ _).1 e1).1
    have htip : vtips [(V.agg xs, Value.agg arr)] = tipsL xs arr.toList := by simp [vtips, tips, tips2]
    have h0 : St lim B (F ++ blks (tipsL xs arr.toList)) S bl [] H w := by
      have := St.rem (us := [(V.agg xs, Value.agg arr)]) (vals := []) (by simpa using h.drop)
      rwa [htip] at this
    obtain ⟨row, hrow⟩ := Option.isSome_iff_exists.1 c2
    obtain ⟨cs, hH, hrow⟩ := Option.bind_eq_some_iff.1 (show (H[id]?).bind _ = some row from hrow)
    have hle : o + n ≤ cs.length := by
      split at hrow
      · assumption
      · cases hrow
    obtain ⟨g1, g2⟩ := setObjs hb xs arr.toList o H w cs h0 (fun p hp => by cases hp) hH (by omega) e1 e2 (fun t k => (h.tip t (.inl (by
      have : vtips [(V.ptr id o, Value.pointer (some ⟨bb, o, none⟩)), (V.agg xs, Value.agg arr)] = tipsL xs arr.toList := by simp [vtips, tips, tips2, tips1]
      rw [this]; exact k))).1) c3
    obtain ⟨carr, e, lo, hi, q1, q2, q3⟩ := (h.obj id cs bb hH hb).ex
    have hrun := run_storeCells P (b := bb) (o := o) arr.toList 0 w carr e lo hi q1 (by omega) (fun j _ hj => q3 j hj) (e1.oneCell e2)
    refine ⟨undef, _, _, _, .inr ⟨?_, rfl⟩, (by simpa [hH] using g1 : St lim B F S bl [] (H.set id (lay ((H[id]?).getD []) o xs)) _).add0 (by simp only [Rep, undef]; exact ⟨#[], rfl, by simp [RepL], by simp⟩) rfl, by simpa [hH] using g2⟩
    simp only [Instr.storeAt, Instr.sureAddr, Sem.run_bind, Sem.run_pure, Result.andThen_ok, storeVar, run_size hsz]
    have : (Value.agg arr).cells.size = n := by show arr.size = n; rw [← Array.length_toList]; omega
    rw [if_neg (by simp [this])]
    have e3 : (Value.agg arr).cells.toList = arr.toList := rfl
    simp only [e3, hrun, Result.andThen_ok]
    rfl
  · cases hr

/-! ### Texts as bytes -/
theorem rep_bytes (l : List UInt8) : RepL S bl w (l.map fun c => V.int .u8 c.toNat) (l.map fun c => Value.int .u8 c.toNat) := by
  induction l with
  | nil => simp [RepL]
  | cons c l ih => simp only [List.map_cons, RepL]; exact ⟨_, _, rfl, rep_int .., ih⟩
theorem good_s2b {s d e : TypeId} {p r : V} {a : Value} (h : St lim B F S bl [(p, a)] H w) (hB : B ≤ w.heap.size) (hs : P.underlying s = some .string) (hd : P.underlying d = some (.slice e)) (he : P.underlying e = some (.int .u8)) (hr : aS2b [p] = some r) :
    Good P lim B F S bl H w r H ((do pure (.value (← convert s d a)) : Sem Next).run P w) := by
  have h1 : Rep S bl w p a := h.rep _ (List.mem_cons_self ..)
  cases p <;> simp only [aS2b] at hr <;> cases hr
  rename_i l
  obtain rfl := h1.str_inv
  obtain ⟨h', hx0⟩ := h.drew
  have hsize : (⟨l.toArray⟩ : ByteArray).size = l.length := by simp [ByteArray.size]
  generalize hq : (Question.appendCap l.length 0 e).cut (w.tape w.drawn (Question.appendCap l.length 0 e)) = cap
  have hnc : l.length ≤ cap := by rw [← hq]; simp only [Question.cut]; omega
  generalize hcarr : ((⟨l.toArray⟩ : ByteArray).data.map (fun b => Value.int .u8 b.toNat)) ++ Array.replicate (cap - l.length) (Value.int .u8 0) = carr
  have hct : carr.toList = (l.map fun c => Value.int .u8 c.toNat) ++ List.replicate (cap - l.length) (Value.int .u8 0) := by rw [← hcarr]; simp
  have hcs : carr.size = cap := by rw [← Array.length_toList, hct]; simp; omega
  obtain ⟨S', g1, g2⟩ := h'.nil.newSl (e := e) (lo := carr.size) (hi := carr.size + 1) (n := l.length) (cap := cap) (sz := 1) hB (rep_bytes l) (fun v hv => by obtain ⟨u, _, rfl⟩ := List.mem_map.1 hv; rfl) hct (fun o ho => by omega) (by simp) ⟨hnc, by omega⟩
  refine ⟨_, _, S', bl, .inl ?_, g1, hx0.trans g2⟩
  simp only [convert, Sem.run_bind, run_und hs, run_und hd, run_und he, Result.andThen_ok, Conv.stringToBytes, hsize, run_choose, Question.forced, Bool.false_eq_true, if_false, hq, hcarr, newRow, run_newObj, Sem.run_pure, markStringish, run_shape]
  have hshape : ({ w with heap := w.heap.push (.cells carr e), drawn := w.drawn + 1 } : World).shape? w.heap.size = some (e, carr.size) := by
    simp [World.shape?]
  simp only [hshape, run_freeze, Result.andThen_ok, Sem.run_pure]
  congr 1
  simp only [World.freeze]
  rw [if_neg (by omega)]
  congr 1
  refine Array.ext_getElem? fun i => ?_
  rw [Array.getElem?_modify, Array.getElem?_push, Array.getElem?_push]
  by_cases hi : i = w.heap.size
  · subst hi; simp
  · simp [hi, Ne.symm hi]
end
end Go.Abs
