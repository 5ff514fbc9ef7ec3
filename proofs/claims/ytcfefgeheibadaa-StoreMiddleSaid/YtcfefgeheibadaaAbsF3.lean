/-
  slices.Clone of plain cells, as the machine's own function: a new slice with the same cells.
-/
import Derived.Test.YtcfefgeheibadaaAbsF2
namespace Go.Abs
open Go.RowKit (Below)

def primClone (sz bytes : Nat) : Prim := fun vs => match vs with
  | [.sl _ n cs] => if V.rbL 0 cs = true ∧ cs.length = n * sz ∧ n * bytes ≤ room then some (.sl (some sz) n cs) else none
  | _ => none

/-- The code of slices.Clone at a type. -/
def okNil (P : Program) (nt : Nat) (o1 o2 : Oper) : Bool :=
  o1.dst == some 3 && o1.guard.isNone && o2.dst == some 4 && o2.guard.isNone && (match o1.op with | .move (.tmp 0) => true | _ => false) &&
  (match o2.op with | .binOp .eql t (.tmp 3) (.const (.slice none 0 0)) _ => (match P.underlying t with | some (.slice _) => true | _ => false) | _ => false)
def okClone (P : Program) (f : FuncId) (sz bytes : Nat) : Bool :=
  okFunc P f && match P.funcs[f]? with
  | some fn => fn.params.size + fn.nfree == 1 && decide (5 ≤ fn.ntmps) && okRes P fn.results.toList [.t 2] && (match fn.body with
    | some (.seq r0 (.seq (.seq (.region _ ops false) (.cond (.tmp 4) r2 .skip)) r3)) =>
      okC P fn.ntmps (fun _ => false) r0 (.reg [0, 2] [] [] [] [(some 2, none, .mv (.k (.sl none 0 [])))]) &&
      okC P fn.ntmps (fun _ => false) r2 (.seq (.reg [2] [] [] [] [(some 2, none, .mv (.k (.sl (some sz) 0 [])))]) .ret) &&
      okC P fn.ntmps (fun _ => false) r3 (.seq (.reg [2] [] [] [] [(some 5, none, .op (.bsl sz [] 0 []) []), (some 6, none, .mv (.t 0)), (some 7, none, .op (.app sz bytes) [.m 5, .t 6]), (some 2, none, .mv (.m 7))]) .ret) &&
      (match ops.toList with | [o1, o2] => okNil P fn.ntmps o1 o2 | _ => false)
    | _ => false)
  | none => false

section
variable {P : Program}
def noOrc : Orc := ⟨fun _ _ _ _ => none, fun _ => false⟩
theorem noOrc_call : CallOK P noOrc := ⟨fun s f args H r H' h => by cases h⟩
theorem noOrc_ok : OrcOK noOrc (fun _ => false) := ⟨fun f h => (by cases h), fun s f args H r H' h => (by cases h), fun s f args H r H' h => (by cases h), fun s f args H r H' _ h => (by cases h)⟩

theorem run_eq_slnil {w : World} {t e : TypeId} {ad : Option Addr} {n c : Nat} (hd : P.underlying t = some (.slice e)) : (Op.equal t (.slice ad n c) (.slice none 0 0)).run P w = .ok ad.isNone w := by
  show (Op.equalIn (9999 + 1) t _ _).run P w = _
  rw [Op.equalIn]
  cases ad <;> simp only [Sem.run_bind, run_und hd, Result.andThen_ok, Sem.run_pure] <;> rfl

theorem clone_run {sz bytes : Nat} {f : FuncId} (hm : P.follows .mixedOrders = true) (hok : okClone P f sz bytes = true) {own : Option Nat} {n : Nat} {cells : List V} (hl : cells.length = n * sz) (hr : n * bytes ≤ room) {B : Nat} {F : List Nat} {S : Nat → Nat → Prop} {c : Value} {w : World}
    (h : St (some 0) B F S [] [(.sl own n cells, c)] [] w) (hB : B ≤ w.heap.size) :
    Calls P f #[c] w fun
      | .returned d, w' => ∃ S', St (some 0) B F S' [] [(.sl (some sz) n cells, d)] [] w' ∧ Ext (some 0) B F S [] [] w S' [] [] w'
      | _, _ => False := by
  have nil_of : ∀ {S' : Nat → Nat → Prop} {bl' : List Nat} {us : List (V × Value)} {w' : World}, St (some 0) B F S' bl' us [] w' → bl' = [] := fun g => by have := g.len; exact List.length_eq_zero_iff.1 this.symm
  unfold okClone at hok
  simp only [Bool.and_eq_true] at hok
  obtain ⟨hfn, hok⟩ := hok
  split at hok
  · rename_i fn hf
    simp only [Bool.and_eq_true, beq_iff_eq, decide_eq_true_eq] at hok
    obtain ⟨⟨⟨hnp, hnt⟩, hres⟩, hok⟩ := hok
    split at hok
    · rename_i r0 i1 ops r2 r3 hb
      simp only [Bool.and_eq_true] at hok
      obtain ⟨⟨⟨k0, k2⟩, k3⟩, k1⟩ := hok
      split at k1
      · rename_i o1 o2 hops
        simp only [okNil, Bool.and_eq_true, beq_iff_eq, Option.isNone_iff_eq_none] at k1
        obtain ⟨⟨⟨⟨⟨d1, g1⟩, d2⟩, g2⟩, p1⟩, p2⟩ := k1
        refine calls_of_wp hf hb ?_
        have hsz : (#[c] ++ Array.replicate (fn.ntmps - #[c].size) undef).size = fn.ntmps := by simp; omega
        have h0 : ER (some 0) B F fn.ntmps S [] [(0, .sl own n cells)] [] { tmps := #[c] ++ Array.replicate (fn.ntmps - #[c].size) undef, defers := [] } w := by
          refine ⟨by simp [keys], fun p hp => ?_, ?_, hsz, rfl, hB⟩
          · simp at hp; subst hp; show 0 < fn.ntmps; omega
          · have e0 : eV { tmps := #[c] ++ Array.replicate (fn.ntmps - #[c].size) undef, defers := [] } [(0, V.sl own n cells)] = [(V.sl own n cells, c)] := by simp [eV, Array.getElem?_append]
            rw [e0]; exact h
        refine wp_seq (sim_code noOrc_call noOrc_ok hm 0 (ex := .nrm) (e' := [(0, .sl own n cells), (2, .sl none 0 [])]) (H' := []) _ _ k0 (by rfl) h0 fun a1 w1 S1 bl1 x1 y1 => ?_)
        obtain rfl := nil_of x1.st
        refine wp_seq (wp_seq (wp_region ?_))
        have hs2 : ops.size = 2 := by rw [← Array.length_toList, hops]; rfl
        have ho1 : ops[0]? = some o1 := by rw [← Array.getElem?_toList, hops]; rfl
        have ho2 : ops[1]? = some o2 := by rw [← Array.getElem?_toList, hops]; rfl
        rw [hs2, show List.range 2 = [0, 1] from rfl, wpOps_cons]
        have q1 : okRow P fn.ntmps ops o1 (some 3, none, .mv (.t 0)) = true := by
          simp only [okRow, d1, g1, Bool.and_eq_true, beq_iff_eq, decide_eq_true_eq]
          refine ⟨⟨⟨trivial, by omega⟩, trivial⟩, ?_⟩
          split at p1
          · rename_i he
            obtain ⟨_, op1, _, _, _, _⟩ := o1
            simp only at he
            subst he; rfl
          · cases p1
        refine sim_op1 noOrc_call ho1 q1 (e1 := [(3, .sl none n cells), (0, .sl own n cells), (2, .sl none 0 [])]) (H1 := []) (by rfl) x1 fun a2 w2 S2 bl2 x2 y2 => ?_
        obtain rfl := nil_of x2.st
        rw [wpOps_cons]
        have hslot := (x2.slot (t := 3) (v := .sl none n cells) rfl).1
        simp only [Rep] at hslot
        obtain ⟨ad, cap, hc3, hle, hnil, hC⟩ := hslot
        have x3 : ER (some 0) B F fn.ntmps S2 [] (putD [(3, .sl none n cells), (0, .sl own n cells), (2, .sl none 0 [])] (some 4) (.bool ad.isNone)) [] (a2.put (some 4) (.bool ad.isNone)) w2 := by
          refine ER.put x2.nodup x2.bnd x2.size x2.defers x2.room (by rintro t ⟨⟩; omega) ?_
          refine St.trade (vals := eV a2 [(3, .sl none n cells), (0, .sl own n cells), (2, .sl none 0 [])]) x2.st (fun p hp => ?_) (fun t ht => ?_) (fun x => ?_)
          · rcases List.mem_append.1 hp with hp | hp
            · exact x2.st.rep p hp
            · simp only [List.mem_singleton] at hp; subst hp; exact rep_bool ..
          · simpa [vtips_append, vtips, tips, tips2, tips1] using ht
          · rw [vtips_append]; simp [vtips, tips, tips2, tips1]
        have fin : ∀ {ex : Ex} {a3 : Act} {w3 : World} {S3 : Nat → Nat → Prop} {bl3 : List Nat}, (ex = .ret) → ER (some 0) B F fn.ntmps S3 bl3 [(2, .sl (some sz) n cells)] [] a3 w3 → Ext (some 0) B F S2 [] [] w2 S3 bl3 [] w3 → bodyPost P fn (fun
            | .returned d, w' => ∃ S', St (some 0) B F S' [] [(.sl (some sz) n cells, d)] [] w' ∧ Ext (some 0) B F S [] [] w S' [] [] w'
            | _, _ => False) ex.exit' a3 w3 := by
          rintro ex a3 w3 S3 bl3 rfl x4 y4
          obtain rfl := nil_of x4.st
          have g0 : St (some 0) B F S3 [] ([] ++ eV a3 [(2, .sl (some sz) n cells)]) [] w3 := x4.st
          obtain ⟨cl, r1, r2, r3, r4⟩ := sim_res (P := P) (vs := [.sl (some sz) n cells]) hres (by simp [rsT]) (by rfl) x4.nodup (fun _ _ => rfl) (fun n v hv => (x4.slot hv).1) g0
          match cl, r3 with
          | [d], _ =>
            have hres : (results fn a3.tmps).run P w3 = .ok d w3 := by
              have e0 : (fn.results.mapM (resRun P a3.tmps)).run P w3 = .ok [d].toArray w3 := by
                rw [Array.mapM_eq_mapM_toList]
                simp only [Sem.run_map, r1, Result.andThen_ok]
              have e1 : results fn a3.tmps = (do let vs ← fn.results.mapM (resRun P a3.tmps); Pure.pure (if h : vs.size = 1 then vs[0] else .tuple vs)) := by
                unfold results
                congr 1
              rw [e1]
              simp only [Sem.run_bind, e0, Result.andThen_ok, Sem.run_pure]
              rfl
            exact ⟨x4.defers, d, hres, S3, by simpa using r2, y1.trans (y2.trans y4)⟩
        have run2 : (execOp a2.eval o2).run P w2 = .ok (.value (.bool ad.isNone)) w2 := by
          split at p2
          · rename_i t ty he
            split at p2
            · rename_i e ht
              have hv3 : a2.eval (.tmp 3) = .slice ad n cap := hc3
              obtain ⟨_, op2, _, _, _, _⟩ := o2
              simp only at he
              subst he
              show ((do pure (.value (← (do eqGuard .eql t (.tmp 3) (.const (.slice none 0 0)) (a2.eval (.tmp 3)) (.slice none 0 0); binOp .eql t (a2.eval (.tmp 3)) (.slice none 0 0))))) : Sem Next).run P w2 = _
              rw [hv3]
              have hg := eqGuard_num (P := P) (w := w2) (op := .eql) (t := t) (x := .tmp 3) (y := .const (.slice none 0 0)) (a := .slice ad n cap) (b := .slice none 0 0) (by simp) (by simp)
              simp only [Sem.run_bind, hg, Result.andThen_ok, binOp, run_eq_slnil ht, Sem.run_pure]
            · cases p2
          · cases p2
        unfold wpOp
        simp only [ho2]
        have hw : Region.wanted o2 (yielded ops a2.tmps) = true := by simp [Region.wanted, g2]
        rw [if_pos hw]
        refine .inl (Did.wp (K := fun c w' => c = .bool ad.isNone ∧ w' = w2) (.inl ⟨_, w2, .inl run2, rfl, rfl⟩) ?_)
        rintro _ _ ⟨rfl, rfl⟩
        rw [d2]
        show Code.wp P _ _ _ _
        refine wp_cond (t := ad.isNone) ?_ ?_
        · exact (x3.slot (t := 4) (v := .bool ad.isNone) rfl).1.bool_inv
        cases ad with
        | none =>
          obtain ⟨rfl, _, rfl⟩ := hnil rfl
          exact sim_code noOrc_call noOrc_ok hm 0 (ex := .ret) (e' := [(2, .sl (some sz) 0 [])]) (H' := []) _ _ k2 (by rfl) x3 fun a3 w3 S3 bl3 x4 y4 => fin rfl x4 y4
        | some ad =>
          refine wp_skip ?_
          have happ : appendTo sz bytes (.sl (some sz) 0 []) (.sl none n cells) [] = some (.sl (some sz) n cells) := by simp [appendTo, tail, hl, hr]
          exact sim_code noOrc_call noOrc_ok hm 0 (ex := .ret) (e' := [(2, .sl (some sz) n cells)]) (H' := []) _ _ k3 (by simp [exL, rops, op1, step, evs, evX, eget, edel, eput, putD, apply, aApp, happ, calm, V.noVia, V.dis, O.writes, fillV, reps, ekeep, eins, confOK, freeOK, fpsOK]) x3 fun a3 w3 S3 bl3 x4 y4 => fin rfl x4 y4
      · cases k1
    · cases hok
  · cases hok

theorem clone_prim {sz bytes : Nat} {f : FuncId} (hm : P.follows .mixedOrders = true) (hok : okClone P f sz bytes = true) : PrimOK P f (primClone sz bytes) := by
  refine ⟨by unfold okClone at hok; simp only [Bool.and_eq_true] at hok; exact hok.1, fun args v hv _ s B F S bl cs H w hl hst hB => ?_⟩
  unfold primClone at hv
  split at hv
  · rename_i own n cells
    split at hv
    · rename_i hc
      cases hv
      obtain ⟨hc1, hc2, hc3⟩ := hc
      match cs, hl with
      | [c], _ =>
        have hh := hst.hide (fun p hp => by simp at hp; subst hp; simpa [V.rb] using hc1)
        refine (clone_run hm hok hc2 hc3 hh hB).mono fun e w' he => ?_
        cases e with
        | returned d =>
          obtain ⟨S', g, x⟩ := he
          exact ⟨S', hst.unhide g (fun p hp => by simp at hp; subst hp; rfl) x⟩
        | _ => exact he.elim
    · cases hv
  · cases hv
end
end Go.Abs
