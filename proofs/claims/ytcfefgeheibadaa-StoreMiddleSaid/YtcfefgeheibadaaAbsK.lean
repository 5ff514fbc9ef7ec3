/-
  Each operation of AbsA does what GoSem's does: stores, texts as bytes; then all operations together.
-/
import Derived.Test.YtcfefgeheibadaaAbsAp
namespace Go.Abs
open Go.RowKit (Below)
set_option linter.unusedVariables false
set_option linter.unusedSimpArgs false

section
variable {P : Program} {lim : Option Nat} {B : Nat} {F : List Nat} {S : Nat → Nat → Prop} {bl : List Nat} {vals : List (V × Value)} {H : Heap} {w : World}

/-! ### Stores -/
theorem good_st {t : TypeId} {p q r : V} {H' : Heap} {a b : Value} (h : St lim B F S bl [(p, a), (q, b)] H w) (hsz : szIs P t 1 = true) (hr : aSt lim H [p, q] = some (r, H')) :
    Good P lim B F S bl H w r H' ((do Instr.storeAt t a b; pure .skip : Sem Next).run P w) := by
  have h1 : Rep S bl w p a := h.rep _ (List.mem_cons_self ..)
  have h2 : Rep S bl w q b := h.rep (q, b) (by simp)
  cases p <;> try (simp [aSt] at hr; done)
  rename_i id o
  simp only [aSt] at hr
  split at hr
  · rename_i hc
    simp only [Bool.and_eq_true] at hc
    obtain ⟨⟨c1, c2⟩, c3⟩ := hc
    cases hr
    obtain ⟨bb, hb, rfl⟩ := h1.ptr_inv
    obtain ⟨o1, o2⟩ := h2.oneCell c1
    have htip : tips q b = tips1 q b := tips_single (.inr trivial) (.inl c1)
    have h0 : St lim B (F ++ blks (tips1 q b)) S bl [] H w := by
      have := St.rem (us := [(q, b)]) (vals := []) (by simpa using h.drop)
      simpa [vtips, htip] using this
    obtain ⟨g1, g2⟩ := h0.setObj (fun p hp => by cases hp) c2 hb c1 h2 (fun t k => (h.tip t (.inl (by simp [vtips, htip, k]))).1) c3
    obtain ⟨old, hold⟩ := Option.isSome_iff_exists.1 c2
    obtain ⟨cs, hH, ho⟩ := Option.bind_eq_some_iff.1 (show (H[id]?).bind (·[o]?) = some old from hold)
    obtain ⟨carr, e, lo, hi, q1, q2, q3⟩ := (h.obj id cs bb hH hb).ex
    have hoc := (List.getElem?_eq_some_iff.1 ho).1
    have hrun := run_storeCells P (b := bb) (o := o) [b] 0 w carr e lo hi q1 (by simp; omega) (fun j _ hj => q3 j hj) (fun v hv => by simp at hv; subst hv; exact o1)
    refine ⟨undef, _, _, _, .inr ⟨?_, rfl⟩, g1.add0 (by simp only [Rep, undef]; exact ⟨#[], rfl, by simp [RepL], by simp⟩) rfl, g2⟩
    simp only [Instr.storeAt, Instr.sureAddr, Sem.run_bind, Sem.run_pure, Result.andThen_ok, storeVar, run_size hsz, o2]
    simp only [List.size_toArray, List.length_cons, List.length_nil, ne_eq, Nat.zero_add, not_true_eq_false, if_false, hrun, Result.andThen_ok]
    rfl
  · cases hr
theorem good_stn {t n : Nat} {p q r : V} {H' : Heap} {a b : Value} (h : St lim B F S bl [(p, a), (q, b)] H w) (hsz : szIs P t n = true) (hr : aStn lim n H [p, q] = some (r, H')) :
    Good P lim B F S bl H w r H' ((do Instr.storeAt t a b; pure .skip : Sem Next).run P w) := by
  have h1 : Rep S bl w p a := h.rep _ (List.mem_cons_self ..)
  have h2 : Rep S bl w q b := h.rep (q, b) (by simp)
  cases p <;> try (simp [aStn] at hr; done)
  rename_i id o
  cases q <;> try (simp [aStn] at hr; done)
  rename_i xs
  simp only [aStn] at hr
  split at hr
  · rename_i hc
    simp only [Bool.and_eq_true, decide_eq_true_eq] at hc
    obtain ⟨⟨c1, c2⟩, c3⟩ := hc
    cases hr
    obtain ⟨bb, hb, rfl⟩ := h1.ptr_inv
    obtain ⟨arr, rfl, e1, e2⟩ := h2.agg_inv
    have hl := ((RepL_iff _ _).1 e1).1
    have htip : vtips [(V.agg xs, Value.agg arr)] = tipsL xs arr.toList := by simp [vtips, tips, tips2]
    have h0 : St lim B (F ++ blks (tipsL xs arr.toList)) S bl [] H w := by
      have := St.rem (us := [(V.agg xs, Value.agg arr)]) (vals := []) (by simpa using h.drop)
      rwa [htip] at this
    obtain ⟨row, hrow⟩ := Option.isSome_iff_exists.1 c2
    obtain ⟨cs, hH, hrow⟩ := Option.bind_eq_some_iff.1 (show (H[id]?).bind _ = some row from hrow)
    have hle : o + n ≤ cs.length := by
      split at hrow
      · assumption
      · cases hrow
    obtain ⟨g1, g2⟩ := setObjs hb xs arr.toList o H w cs h0 (fun p hp => by cases hp) hH (by omega) e1 e2 (fun t k => (h.tip t (.inl (by
      have : vtips [(V.ptr id o, Value.pointer (some ⟨bb, o, none⟩)), (V.agg xs, Value.agg arr)] = tipsL xs arr.toList := by simp [vtips, tips, tips2, tips1]
      rw [this]; exact k))).1) c3
    obtain ⟨carr, e, lo, hi, q1, q2, q3⟩ := (h.obj id cs bb hH hb).ex
    have hrun := run_storeCells P (b := bb) (o := o) arr.toList 0 w carr e lo hi q1 (by omega) (fun j _ hj => q3 j hj) (e1.oneCell e2)
    refine ⟨undef, _, _, _, .inr ⟨?_, rfl⟩, (by simpa [hH] using g1 : St lim B F S bl [] (H.set id (lay ((H[id]?).getD []) o xs)) _).add0 (by simp only [Rep, undef]; exact ⟨#[], rfl, by simp [RepL], by simp⟩) rfl, by simpa [hH] using g2⟩
    simp only [Instr.storeAt, Instr.sureAddr, Sem.run_bind, Sem.run_pure, Result.andThen_ok, storeVar, run_size hsz]
    have : (Value.agg arr).cells.size = n := by show arr.size = n; rw [← Array.length_toList]; omega
    rw [if_neg (by simp [this])]
    have e3 : (Value.agg arr).cells.toList = arr.toList := rfl
    simp only [e3, hrun, Result.andThen_ok]
    rfl
  · cases hr

/-! ### Texts as bytes -/
theorem rep_bytes (l : List UInt8) : RepL S bl w (l.map fun c => V.int .u8 c.toNat) (l.map fun c => Value.int .u8 c.toNat) := by
  induction l with
  | nil => simp [RepL]
  | cons c l ih => simp only [List.map_cons, RepL]; exact ⟨_, _, rfl, rep_int .., ih⟩
theorem good_s2b {s d e : TypeId} {p r : V} {a : Value} (h : St lim B F S bl [(p, a)] H w) (hB : B ≤ w.heap.size) (hs : P.underlying s = some .string) (hd : P.underlying d = some (.slice e)) (he : P.underlying e = some (.int .u8)) (hr : aS2b [p] = some r) :
    Good P lim B F S bl H w r H ((do pure (.value (← convert s d a)) : Sem Next).run P w) := by
  have h1 : Rep S bl w p a := h.rep _ (List.mem_cons_self ..)
  cases p <;> simp only [aS2b] at hr <;> cases hr
  rename_i l
  obtain rfl := h1.str_inv
  obtain ⟨h', hx0⟩ := h.drew
  have hsize : (⟨l.toArray⟩ : ByteArray).size = l.length := by simp [ByteArray.size]
  generalize hq : (Question.appendCap l.length 0 e).cut (w.tape w.drawn (Question.appendCap l.length 0 e)) = cap
  have hnc : l.length ≤ cap := by rw [← hq]; simp only [Question.cut]; omega
  generalize hcarr : ((⟨l.toArray⟩ : ByteArray).data.map (fun b => Value.int .u8 b.toNat)) ++ Array.replicate (cap - l.length) (Value.int .u8 0) = carr
  have hct : carr.toList = (l.map fun c => Value.int .u8 c.toNat) ++ List.replicate (cap - l.length) (Value.int .u8 0) := by rw [← hcarr]; simp
  have hcs : carr.size = cap := by rw [← Array.length_toList, hct]; simp; omega
  obtain ⟨S', g1, g2⟩ := h'.nil.newSl (e := e) (lo := carr.size) (hi := carr.size + 1) (n := l.length) (cap := cap) (sz := 1) hB (rep_bytes l) (fun v hv => by obtain ⟨u, _, rfl⟩ := List.mem_map.1 hv; rfl) hct (fun o ho => by omega) (by simp) ⟨hnc, by omega⟩
  refine ⟨_, _, S', bl, .inl ?_, g1, hx0.trans g2⟩
  simp only [convert, Sem.run_bind, run_und hs, run_und hd, run_und he, Result.andThen_ok, Conv.stringToBytes, hsize, run_choose, Question.forced, Bool.false_eq_true, if_false, hq, hcarr, newRow, run_newObj, Sem.run_pure, markStringish, run_shape]
  have hshape : ({ w with heap := w.heap.push (.cells carr e), drawn := w.drawn + 1 } : World).shape? w.heap.size = some (e, carr.size) := by
    simp [World.shape?]
  simp only [hshape, run_freeze, Result.andThen_ok, Sem.run_pure]
  congr 1
  simp only [World.freeze]
  rw [if_neg (by omega)]
  congr 1
  refine Array.ext_getElem? fun i => ?_
  rw [Array.getElem?_modify, Array.getElem?_push, Array.getElem?_push]
  by_cases hi : i = w.heap.size
  · subst hi; simp
  · simp [hi, Ne.symm hi]
end
end Go.Abs
