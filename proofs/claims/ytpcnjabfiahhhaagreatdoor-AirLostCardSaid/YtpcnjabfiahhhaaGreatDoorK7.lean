/- A part of the proof of RowAirFits, RowAirHeard, RowAirOrder, RowAirLost: lemmas alone, without conditions. -/
import Derived.Test.YtpcnjabfiahhhaaGreatDoorK6
import Derived.Laws.Externs
import Derived.KernelRfl
set_option linter.all false
namespace Go.Abs
open Go.Extern
section
variable {P : Program} {lim : Option Nat} {B : Nat} {F : List Nat} {S : Nat → Nat → Prop} {bl : List Nat} {vals : List (V × Value)} {H : aB} {w : World}
theorem aJi {name : String} {t : TypeId} {f : FuncId} {v : Value} {n : Nat} (h : aI0 P name t f = true) : (method (n + 1) t v name).run P w = .ok (f, v) w := by
 unfold aI0 at h
 split at h
 ·rename_i i hi
  split at h
  ·rename_i m hm
   simp only [Bool.and_eq_true] at h
   obtain ⟨hp, h⟩ := h
   split at h
   ·rename_i g pr hg
    simp only [Bool.and_eq_true, beq_iff_eq] at h
    obtain ⟨rfl, h⟩ := h
    have hpath : m.path.toList = [] := by simpa using hp
    cases hu : P.underlying t with
    | none => rw [hu] at h; cases h
    | some d =>
      rw [hu] at h
      simp only [method, Sem.run_bind, fJ hi, Result.andThen_ok, hm, hpath, follow, Sem.run_pure, hg, receiverAt, aO hu]
      cases d <;> simp only at h <;> (first | subst h | (simp only [Bool.not_eq_true'] at h; subst h)) <;> simp [Place.get]
   ·cases h
  ·cases h
 ·cases h
theorem S5 : ∀ {l : List String}, l ≠ [] → ∃ s, Instr.least l = some s
 | [], h => absurd rfl h
 | _ :: _, _ => ⟨_, rfl⟩
theorem aJj {want : Array (String × TypeId)} {got : Array Method} (h : (!aBu want got) = true) : Instr.missingMethod want got = none := by
 unfold aBu at h
 simp only [Bool.not_not, List.isEmpty_iff] at h
 unfold Instr.missingMethod
 rw [h]; rfl
theorem aJk {p : String → Bool} {f : String → String} {ms : List String} (h : ms ≠ []) : ∃ m, (Instr.least (ms.partition p).2 <|> Instr.least ((ms.partition p).1.map f)) = some m := by
 simp only [List.partition_eq_filter_filter]
 by_cases he : ms.filter (not ∘ p) = []
 ·have hu : ms.filter p ≠ [] := by
   intro hu
   cases ms with
   | nil => exact h rfl
   | cons x r =>
     cases hx : p x with
     | true => rw [List.filter_cons_of_pos hx] at hu; cases hu
     | false => rw [List.filter_cons_of_pos (by simp [hx])] at he; cases he
  obtain ⟨s, hs⟩ := S5 (l := (ms.filter p).map f) (by simpa using hu)
  exact ⟨s, by rw [he, hs]; rfl⟩
 ·obtain ⟨s, hs⟩ := S5 he
  exact ⟨s, by rw [hs]; rfl⟩
theorem aBv {want : Array (String × TypeId)} {got : Array Method} (h : aBu want got = true) : ∃ m, Instr.missingMethod want got = some m := by
 unfold aBu at h
 unfold Instr.missingMethod
 refine aJk fun e => ?_
 rw [List.map_eq_nil_iff.1 e] at h
 cases h
theorem aEw {fn : Func} (h : fn.name = "internal/reflectlite.TypeOf") : Extern.find fn = some ReflectliteType.typeOf := by
 unfold Extern.find
 rw [h]
 kernel_rfl
theorem O3 {fn : Func} (h : fn.name = "(internal/reflectlite.rtype).Comparable") : Extern.find fn = some (ReflectliteType.method fun t => do Rtype.noPackHeld "Comparable" t; pure (.bool (← typeInfo t).comparable)) := by
 unfold Extern.find
 rw [h]
 kernel_rfl
theorem aEx {f : FuncId} {name : String} (h : aLp P f name = true) {e : Array Value → Sem Value} (he : ∀ fn : Func, fn.name = name → Extern.find fn = some e) (hn : (name == "runtime.NumGoroutine") = false) (args : Array Value) (w : World) :
 (callFunc f args).run P w = ((e args).run P w).andThen fun v w' => .ok (.value v) w' := by
 unfold aLp at h
 split at h
 ·rename_i fn hf
  simp only [Bool.and_eq_true, beq_iff_eq] at h
  obtain ⟨⟨h1, rfl⟩, h3⟩ := h
  exact run_callFunc_extern hf hn h1 (by simpa using h3) (he fn rfl) args w
 ·cases h
theorem aP8 {rt gs t : Nat} {v : Value} (h : P.globals.size = gs) (hc : (match P.cutTypes.find? (·.1 == "internal/reflectlite.rtype") with | some (_, t) => t == rt | none => false) = true) :
 (ReflectliteType.typeOf #[.iface t v]).run P w = .ok (.iface rt (.agg #[.pointer (some ⟨gs, t, none⟩)])) w := by
 subst h
 split at hc
 ·rename_i n u hf
  simp only [beq_iff_eq] at hc
  subst hc
  rw [show ReflectliteType.typeOf #[.iface t v] = ReflectliteType.toType t from rfl]
  simp only [ReflectliteType.toType, Go.cutType, Rtype.handle, Sem.run_bind, run_program, Result.andThen_ok, hf, Sem.run_pure, typeHandle]
 ·cases hc
theorem aP9 {gs t : Nat} (h : P.globals.size = gs) (ht : ((match P.info? t with | some i => i.comparable | none => false) && !P.packed t && !P.holdsPacked P.depth t) = true) :
 ((ReflectliteType.method fun t => do Rtype.noPackHeld "Comparable" t; pure (.bool (← typeInfo t).comparable)) #[.agg #[.pointer (some ⟨gs, t, none⟩)]]).run P w = .ok (.bool true) w := by
 subst h
 simp only [Bool.and_eq_true, Bool.not_eq_true'] at ht
 obtain ⟨⟨h1, h2⟩, h3⟩ := ht
 split at h1
 ·rename_i i hi
  rw [show ∀ f, ReflectliteType.method f #[.agg #[.pointer (some ⟨P.globals.size, t, none⟩)]] = (do f (← ReflectliteType.ofRtype (.agg #[.pointer (some ⟨P.globals.size, t, none⟩)]))) from fun _ => rfl,
   show ReflectliteType.ofRtype (.agg #[.pointer (some ⟨P.globals.size, t, none⟩)]) = (do let t ← Rtype.ofHandle (.pointer (some ⟨P.globals.size, t, none⟩)); Rtype.noPack "a Type asked or handed on" t; pure t) from rfl]
  simp only [Rtype.ofHandle, handleType, Rtype.noPack, Rtype.noPackHeld, Sem.run_bind, run_program, Result.andThen_ok, beq_self_eq_true, if_true, Sem.run_pure, h2, h3, Bool.false_eq_true, if_false, fJ hi, h1]
 ·cases h1
theorem aLq {dst : Option Tmp} {y : Operand} {ats : Array TypeId} {ty : TypeId} {pos : String} {after : Array Edge} {guard : Option (Nat × Bool)} {ρ : Operand → Value} {u gs g t : Nat} (h2 : aI0 P "Comparable" u g = true) (h3 : aLp P g "(internal/reflectlite.rtype).Comparable" = true) (h4 : P.globals.size = gs)
 (h5 : ((match P.info? t with | some i => i.comparable | none => false) && !P.packed t && !P.holdsPacked P.depth t) = true) (k1 : ρ y = .iface u (.agg #[.pointer (some ⟨gs, t, none⟩)])) :
 (execOp ρ ⟨dst, .call ⟨.invoke y "Comparable", #[], ats⟩, ty, pos, after, guard⟩).run P w = .ok (.value (.bool true)) w := by
 have e1 := aEx (P := P) h3 (fun fn hfn => O3 hfn) (by decide) #[.agg #[.pointer (some ⟨gs, t, none⟩)]] w
 rw [aP9 h4 h5] at e1
 have hd : P.types.size + Made.depth = (P.types.size + (Made.depth - 1)) + 1 := by
  have : 0 < Made.depth := by decide
  omega
 have e2 : (method (P.types.size + Made.depth) u (.agg #[.pointer (some ⟨gs, t, none⟩)]) "Comparable").run P w = .ok (g, .agg #[.pointer (some ⟨gs, t, none⟩)]) w := by
  rw [hd]; exact aJi h2
 have e3 : (callMethod (.iface u (.agg #[.pointer (some ⟨gs, t, none⟩)])) "Comparable" #[]).run P w = .ok (.value (.bool true)) w := by
  simp only [callMethod, Sem.run_bind, run_program, Result.andThen_ok, e2]
  exact e1
 show (do let d ← resolve ρ ⟨.invoke y "Comparable", #[], ats⟩ ty; invoke d.target d.args : Sem Next).run P w = _
 simp only [resolve, Sem.run_bind, Sem.run_pure, Result.andThen_ok, k1]
 have e4 : (#[Value.iface u (.agg #[.pointer (some ⟨gs, t, none⟩)])] ++ Array.map ρ #[] : Array Value) = #[.iface u (.agg #[.pointer (some ⟨gs, t, none⟩)])] := by simp
 have e5 : ∀ c : Value, invoke (.fn (.method "Comparable") #[]) #[c] = callMethod c "Comparable" #[] := fun c => rfl
 rw [e4, e5]
 exact e3
end
end Go.Abs
namespace Go.Abs
open Go.RowKit (Below)
set_option linter.unusedVariables false
set_option linter.unusedSimpArgs false
section
variable {P : Program} {lim : Option Nat} {B : Nat} {F : List Nat} {S : Nat → Nat → Prop} {bl : List Nat} {vals : List (V × Value)} {H : aB} {w : World}
theorem aQy {t : TypeId} {p q r : V} {H' : aB} {a b : Value} (h : St lim B F S bl [(p, a), (q, b)] H w) (hsz : fP P t 1 = true) (hr : aSt lim H [p, q] = some (r, H')) :
 uY P lim B F S bl H w r H' ((do Instr.storeAt t a b; pure .skip : Sem Next).run P w) := by
 have h1 : Rep S bl w p a := h.rep _ (List.mem_cons_self ..)
 have h2 : Rep S bl w q b := h.rep (q, b) (by simp)
 cases p <;> try (simp [aSt] at hr; done)
 rename_i id o
 simp only [aSt] at hr
 split at hr
 ·rename_i hc
  simp only [Bool.and_eq_true] at hc
  obtain ⟨⟨c1, c2⟩, c3⟩ := hc
  cases hr
  obtain ⟨bb, hb, rfl⟩ := h1.ptr_inv
  obtain ⟨o1, o2⟩ := h2.oneCell c1
  have htip : cJ q b = bP q b := fV (.inr trivial) (.inl c1)
  have h0 : St lim B (F ++ aS (bP q b)) S bl [] H w := by
   have := St.rem (us := [(q, b)]) (vals := []) (by simpa using h.drop)
   simpa [aH, htip] using this
  obtain ⟨g1, g2⟩ := h0.setObj (fun p hp => by cases hp) c2 hb c1 h2 (fun t k => (h.tip t (.inl (by simp [aH, htip, k]))).1) c3
  obtain ⟨old, hold⟩ := Option.isSome_iff_exists.1 c2
  obtain ⟨cs, hH, ho⟩ := Option.bind_eq_some_iff.1 (show (H[id]?).bind (·[o]?) = some old from hold)
  obtain ⟨carr, e, lo, hi, q1, q2, q3⟩ := (h.obj id cs bb hH hb).ex
  have hoc := (List.getElem?_eq_some_iff.1 ho).1
  have hrun := eF P (b := bb) (o := o) [b] 0 w carr e lo hi q1 (by simp; omega) (fun j _ hj => q3 j hj) (fun v hv => by simp at hv; subst hv; exact o1)
  refine ⟨undef, _, _, _, .inr ⟨?_, rfl⟩, g1.add0 (by simp only [Rep, undef]; exact ⟨#[], rfl, by simp [RepL], by simp⟩) rfl, g2⟩
  simp only [Instr.storeAt, Instr.sureAddr, Sem.run_bind, Sem.run_pure, Result.andThen_ok, storeVar, bT hsz, o2]
  simp only [List.size_toArray, List.length_cons, List.length_nil, ne_eq, Nat.zero_add, not_true_eq_false, if_false, hrun, Result.andThen_ok]
  rfl
 ·cases hr
theorem aO6 {t n : Nat} {p q r : V} {H' : aB} {a b : Value} (h : St lim B F S bl [(p, a), (q, b)] H w) (hsz : fP P t n = true) (hr : aG4 lim n H [p, q] = some (r, H')) :
 uY P lim B F S bl H w r H' ((do Instr.storeAt t a b; pure .skip : Sem Next).run P w) := by
 have h1 : Rep S bl w p a := h.rep _ (List.mem_cons_self ..)
 have h2 : Rep S bl w q b := h.rep (q, b) (by simp)
 cases p <;> try (simp [aG4] at hr; done)
 rename_i id o
 cases q <;> try (simp [aG4] at hr; done)
 rename_i xs
 simp only [aG4] at hr
 split at hr
 ·rename_i hc
  simp only [Bool.and_eq_true, decide_eq_true_eq] at hc
  obtain ⟨⟨c1, c2⟩, c3⟩ := hc
  cases hr
  obtain ⟨bb, hb, rfl⟩ := h1.ptr_inv
  obtain ⟨arr, rfl, e1, e2⟩ := h2.agg_inv
  have hl := ((aK _ _).1 e1).1
  have htip : aH [(V.agg xs, Value.agg arr)] = aT xs arr.toList := by simp [aH, cJ, cU]
  have h0 : St lim B (F ++ aS (aT xs arr.toList)) S bl [] H w := by
   have := St.rem (us := [(V.agg xs, Value.agg arr)]) (vals := []) (by simpa using h.drop)
   rwa [htip] at this
  obtain ⟨row, hrow⟩ := Option.isSome_iff_exists.1 c2
  obtain ⟨cs, hH, hrow⟩ := Option.bind_eq_some_iff.1 (show (H[id]?).bind _ = some row from hrow)
  have hle : o + n ≤ cs.length := by
   split at hrow
   ·assumption
   ·cases hrow
  obtain ⟨g1, g2⟩ := A9 hb xs arr.toList o H w cs h0 (fun p hp => by cases hp) hH (by omega) e1 e2 (fun t k => (h.tip t (.inl (by
   have : aH [(V.ptr id o, Value.pointer (some ⟨bb, o, none⟩)), (V.agg xs, Value.agg arr)] = aT xs arr.toList := by simp [aH, cJ, cU, bP]
   rw [this]; exact k))).1) c3
  obtain ⟨carr, e, lo, hi, q1, q2, q3⟩ := (h.obj id cs bb hH hb).ex
  have hrun := eF P (b := bb) (o := o) arr.toList 0 w carr e lo hi q1 (by omega) (fun j _ hj => q3 j hj) (e1.oneCell e2)
  refine ⟨undef, _, _, _, .inr ⟨?_, rfl⟩, (by simpa [hH] using g1 : St lim B F S bl [] (H.set id (fB ((H[id]?).getD []) o xs)) _).add0 (by simp only [Rep, undef]; exact ⟨#[], rfl, by simp [RepL], by simp⟩) rfl, by simpa [hH] using g2⟩
  simp only [Instr.storeAt, Instr.sureAddr, Sem.run_bind, Sem.run_pure, Result.andThen_ok, storeVar, bT hsz]
  have : (Value.agg arr).cells.size = n := by show arr.size = n; rw [← Array.length_toList]; omega
  rw [if_neg (by simp [this])]
  have e3 : (Value.agg arr).cells.toList = arr.toList := rfl
  simp only [e3, hrun, Result.andThen_ok]
  rfl
 ·cases hr
theorem aKo (l : List UInt8) : RepL S bl w (l.map fun c => V.int .u8 c.toNat) (l.map fun c => Value.int .u8 c.toNat) := by
 induction l with
 | nil => simp [RepL]
 | cons c l ih => simp only [List.map_cons, RepL]; exact ⟨_, _, rfl, fN .., ih⟩
theorem aO7 {s d e : TypeId} {p r : V} {a : Value} (h : St lim B F S bl [(p, a)] H w) (hB : B ≤ w.heap.size) (hs : P.underlying s = some .string) (hd : P.underlying d = some (.slice e)) (he : P.underlying e = some (.int .u8)) (hr : aNv [p] = some r) :
 uY P lim B F S bl H w r H ((do pure (.value (← convert s d a)) : Sem Next).run P w) := by
 have h1 : Rep S bl w p a := h.rep _ (List.mem_cons_self ..)
 cases p <;> simp only [aNv] at hr <;> cases hr
 rename_i l
 obtain rfl := h1.str_inv
 obtain ⟨h', hx0⟩ := h.drew
 have hsize : (⟨l.toArray⟩ : ByteArray).size = l.length := by simp [ByteArray.size]
 generalize hq : (Question.appendCap l.length 0 e).cut (w.tape w.drawn (Question.appendCap l.length 0 e)) = cap
 have hnc : l.length ≤ cap := by rw [← hq]; simp only [Question.cut]; omega
 generalize hcarr : ((⟨l.toArray⟩ : ByteArray).data.map (fun b => Value.int .u8 b.toNat)) ++ Array.replicate (cap - l.length) (Value.int .u8 0) = carr
 have hct : carr.toList = (l.map fun c => Value.int .u8 c.toNat) ++ List.replicate (cap - l.length) (Value.int .u8 0) := by rw [← hcarr]; simp
 have hcs : carr.size = cap := by rw [← Array.length_toList, hct]; simp; omega
 obtain ⟨S', g1, g2⟩ := h'.nil.newSl (e := e) (lo := carr.size) (hi := carr.size + 1) (n := l.length) (cap := cap) (sz := 1) hB (aKo l) (fun v hv => by obtain ⟨u, _, rfl⟩ := List.mem_map.1 hv; rfl) hct (fun o ho => by omega) (by simp) ⟨hnc, by omega⟩
 refine ⟨_, _, S', bl, .inl ?_, g1, hx0.trans g2⟩
 simp only [convert, Sem.run_bind, aO hs, aO hd, aO he, Result.andThen_ok, Conv.stringToBytes, hsize, run_choose, Question.forced, Bool.false_eq_true, if_false, hq, hcarr, newRow, run_newObj, Sem.run_pure, markStringish, run_shape]
 have hshape : ({ w with heap := w.heap.push (.cells carr e), drawn := w.drawn + 1 } : World).shape? w.heap.size = some (e, carr.size) := by
  simp [World.shape?]
 simp only [hshape, run_freeze, Result.andThen_ok, Sem.run_pure]
 congr 1
 simp only [World.freeze]
 rw [if_neg (by omega)]
 congr 1
 refine Array.ext_getElem? fun i => ?_
 rw [Array.getElem?_modify, Array.getElem?_push, Array.getElem?_push]
 by_cases hi : i = w.heap.size
 ·subst hi; simp
 ·simp [hi, Ne.symm hi]
end
end Go.Abs
