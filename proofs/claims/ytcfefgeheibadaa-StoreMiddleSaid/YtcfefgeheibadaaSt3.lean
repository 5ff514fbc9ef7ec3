/-
  A store by what it holds, whatever is done to it.
-/
import Derived.Test.YtcfefgeheibadaaSt2
import Derived.Test.YtcfefgeheibadaaAbsE6
namespace Go.Abs
open Go.Proofs.Ytcfefgeheibadaa
attribute [local irreducible] enL R RR kSeq kBlk kLp kReg kFin kFn apply evs evX edel ekeep eins fillV lay resAll finish trim mayW frz frz1 V.rb V.rbL

/-- What a slice lies in now lay there before, or is new. -/
def Foot (v v1 : V) (H : Heap) : Prop := ∀ q, q ∈ foot v1 → q ∈ foot v ∨ H.length ≤ q
theorem foot_same {v : V} {H : Heap} : Foot v v H := fun _ h => .inl h
theorem fr_refl {H : Heap} {F : List Nat} : Fr H H F := ⟨Nat.le_refl _, fun _ _ _ => rfl⟩
theorem fr_app {H L : Heap} {F : List Nat} : Fr H (H ++ L) F := ⟨by rw [List.length_append]; omega, fun i hi _ => List.getElem?_append_left hi⟩
theorem Fr.mono {H G : Heap} {F F' : List Nat} (h : Fr H G F) (k : ∀ i ∈ F, i ∈ F') : Fr H G F' := ⟨h.len, fun i hi hn => h.same i hi fun j => hn (k i j)⟩
theorem Fr.get {H G : Heap} {F : List Nat} {i : Nat} {cs : List V} (h : Fr H G F) (k : H[i]? = some cs) (hn : i ∉ F) : G[i]? = some cs := by
  rw [h.same i (List.getElem?_eq_some_iff.1 k).1 hn]; exact k
theorem Fr.trans {H G K : Heap} {F F' : List Nat} (h : Fr H G F) (k : Fr G K F') (hs : ∀ i ∈ F', i ∈ F ∨ H.length ≤ i) : Fr H K F :=
  ⟨Nat.le_trans h.len k.len, fun i hi hn => by
    rw [k.same i (by have := h.len; omega) (fun j => by rcases hs i j with j | j; exact hn j; omega), h.same i hi hn]⟩

theorem ga_fr {H G : Heap} {v : V} {l : List Item} {F : List Nat} (h : GA H v l) (k : Fr H G F) (hn : ∀ q ∈ foot v, q ∉ F) : GA G v l := by
  rcases h with h | ⟨q, n, rest, rfl, h1, h2⟩
  · exact .inl h
  · exact .inr ⟨q, n, rest, rfl, k.get h1 (hn q (by simp [foot])), h2⟩
theorem StoreAt.fr {H G : Heap} {p : Nat} {room : Int} {l : List Item} {v : V} {F : List Nat} (h : StoreAt H p room l v) (k : Fr H G F) (hp : p ∉ F) (hn : ∀ q ∈ foot v, q ∉ F) : StoreAt G p room l v :=
  ⟨k.get h.at_ hp, ga_fr h.ga k hn, h.apart⟩
theorem StoreAt.lt {H : Heap} {p : Nat} {room : Int} {l : List Item} {v : V} (h : StoreAt H p room l v) : p < H.length := (List.getElem?_eq_some_iff.1 h.at_).1
theorem StoreAt.flt {H : Heap} {p : Nat} {room : Int} {l : List Item} {v : V} (h : StoreAt H p room l v) : ∀ q ∈ foot v, q < H.length := by
  rcases h.ga with ⟨rfl, _⟩ | ⟨q, n, rest, rfl, h1, _⟩
  · intro q hq; simp [foot] at hq
  · intro q' hq
    simp [foot] at hq; subst hq
    exact (List.getElem?_eq_some_iff.1 h1).1
theorem StoreAt.v {H : Heap} {p : Nat} {room : Int} {l : List Item} {v : V} (h : StoreAt H p room l v) : (v = .nls ∧ l.length = 0) ∨ ∃ q k, v = .ar 4 q 0 l.length k := by
  rcases h.ga with ⟨rfl, rfl⟩ | ⟨q, n, rest, rfl, h1, _⟩
  · exact .inl ⟨rfl, rfl⟩
  · exact .inr ⟨q, n, rfl⟩
/-- A store in a heap that was cut. -/
theorem StoreAt.cut {G H : Heap} {p lm : Nat} {room : Int} {l l0 : List Item} {v v0 : V} (h0 : StoreAt G p room l0 v0) (h : StoreAt H p room l v) (hp : lm ≤ p) (k : KB lm G H) : StoreAt (H.take G.length) p room l v := by
  have lt := h0.lt
  have f : ∀ q ∈ foot v, q < G.length := by
    rcases k p _ _ hp h0.at_ h.at_ with e | e
    · have e2 : v0 = v := by
        injection e with _ e; injection e
      rw [← e2]; exact h0.flt
    · rcases h.v with ⟨rfl, _⟩ | ⟨q, n, rfl⟩
      · intro q hq; simp [foot] at hq
      · intro q' hq
        simp [foot] at hq; subst hq
        simpa [V.rbL, V.rb] using e
  refine ⟨by rw [List.getElem?_take_of_lt lt]; exact h.at_, ?_, h.apart⟩
  rcases h.ga with e | ⟨q, n, rest, rfl, h1, h2⟩
  · exact .inl e
  · exact .inr ⟨q, n, rest, rfl, by rw [List.getElem?_take_of_lt (f q (by simp [foot]))]; exact h1, h2⟩

theorem lay_snoc {l : List Item} {x : Item} {rest : List V} : lay (enL l ++ rest) (0 + l.length * 4) (Xc x) = enL (l ++ [x]) ++ rest.drop 4 := by
  have e : (enL l).length = l.length * 4 := enL_lz l rfl
  unfold lay
  rw [enL_app, enL_one, Nat.zero_add, ← e, List.take_left, List.drop_append, List.drop_of_length_le (Nat.le_add_right _ _), Nat.add_sub_cancel_left]
  rfl

set_option maxHeartbeats 1000000 in
theorem put_any {H : Heap} {lm p : Nat} {room : Int} {x : Item} {l : List Item} {v : V} (h : StoreAt H p room l v) (hlp : lm ≤ p) (hlv : ∀ q ∈ foot v, lm ≤ q) (hn : l.length ≤ 1000) :
    Ev (Call tab (some lm) f_store_Store_Put [.ptr p 0, .agg (Xc x)] H) (fun r => ∃ H1 v1, r = some (.int .i64 (putE room l.length x), H1) ∧ StoreAt H1 p room (putL room l x) v1 ∧ Fr H H1 (p :: foot v) ∧ Foot v v1 H) := by
  by_cases hx : itemOK x = true
  · by_cases hb : 24 < x.body.length
    · have e : putE room l.length x = 3 := by simp [putE, hx, hb]
      refine ⟨_, v, put_long hx hb |>.trans (by rw [e]), ?_, fr_app, foot_same⟩
      rw [putL, e]; exact h.fr fr_app (F := []) (by simp) (by simp)
    · by_cases hr : room ≤ (l.length : Int)
      · have e : putE room l.length x = 15 := by simp [putE, hx, hb, hr]
        refine ⟨_, v, put_full h.at_ h.v hx (by omega) hr |>.trans (by rw [e]), ?_, fr_app, foot_same⟩
        rw [putL, e]; exact h.fr fr_app (F := []) (by simp) (by simp)
      · have e : putE room l.length x = 0 := by simp [putE, hx, hb, hr]
        have hp := h.at_
        have hlt := h.lt
        rcases h.ga with ⟨rfl, rfl⟩ | ⟨q, k, rest, rfl, hq, hk, hrest, hk0⟩
        · refine ⟨_, .ar 4 (H.length + 1) 0 1 1, put_nls hp hlp hx (by omega) (by simp at hr; omega) |>.trans (by rw [e]), ?_, ⟨by simp, fun i hi hni => ?_⟩, fun q hq => ?_⟩
          · rw [putL, e, if_pos rfl]
            refine ⟨?_, .inr ⟨H.length + 1, 1, [], rfl, ?_, by simp, by simp, by omega⟩, ?_⟩
            · rw [List.append_assoc, List.getElem?_append_left (by simpa using hlt), List.getElem?_set_self hlt]
            · rw [List.getElem?_append_right (by simp)]; simp [enL_one]
            · simp [foot]; omega
          · simp [foot] at hni
            rw [List.append_assoc, List.getElem?_append_left (by simpa using hi), List.getElem?_set_ne (fun e => hni e.symm)]
          · simp [foot] at hq; right; omega
        · have hqlt := (List.getElem?_eq_some_iff.1 hq).1
          have hpq : q ≠ p := fun e => h.apart (by simp [foot, e])
          have hlq : lm ≤ q := hlv q (by simp [foot])
          have el : (enL l).length = l.length * 4 := enL_lz l rfl
          have c4 : Cel.n Item = 4 := rfl
          rw [c4] at hrest
          by_cases hk1 : l.length + 1 ≤ k
          · refine ⟨_, .ar 4 q 0 (l.length + 1) k, put_in hp hq hpq hlp hlq hk1 (by rw [List.length_append, el]; omega) hx (by omega) (by omega) |>.trans (by rw [e]), ?_, ⟨by simp, fun i hi hni => ?_⟩, fun q' hq' => .inl (show q' ∈ [q] from hq')⟩
            · rw [putL, e, if_pos rfl, lay_snoc]
              refine ⟨?_, .inr ⟨q, k, rest.drop 4, by simp [c4], ?_, by simpa using hk1, by rw [List.length_drop, hrest, c4, List.length_append, List.length_singleton]; (try omega), hk0⟩, ?_⟩
              · rw [List.getElem?_append_left (by simpa using hlt), List.getElem?_set_self (by simpa using hlt)]
              · rw [List.getElem?_append_left (by simpa using hqlt), List.getElem?_set_ne (fun e => hpq e.symm), List.getElem?_set_self hqlt]
              · simp [foot]; exact fun e => hpq e.symm
            · simp [foot] at hni
              rw [List.getElem?_append_left (by simpa using hi), List.getElem?_set_ne (fun e => hni.1 e.symm), List.getElem?_set_ne (fun e => hni.2 e.symm)]
          · have hl0 : l.length = k := by omega
            refine ⟨_, .ar 4 (H.length + 1) 0 (l.length + 1) (l.length + 1), put_new hp hq hpq hlp hlq (by omega) (by omega) (by rw [List.length_append, el]; omega) (fun e => ?_) hx (by omega) (by omega) |>.trans (by rw [e]), ?_, ⟨by simp, fun i hi hni => ?_⟩, fun q' hq' => ?_⟩
            · have := congrArg List.length e
              rw [List.length_append, el] at this; simp at this; omega
            · rw [putL, e, if_pos rfl]
              refine ⟨?_, .inr ⟨H.length + 1, l.length + 1, [], by simp [c4], ?_, by simp, by simp, by omega⟩, ?_⟩
              · rw [List.append_assoc, List.getElem?_append_left (by simpa using hlt), List.getElem?_set_self (by simpa using hlt)]
              · rw [List.getElem?_append_right (by simp)]
                simp only [List.length_append, List.length_set, List.length_singleton, Nat.sub_self, List.getElem?_cons_zero, List.append_nil, Option.some.injEq]
                rw [← el, List.take_left, enL_app, enL_one]
              · simp [foot]; omega
            · simp [foot] at hni
              rw [List.append_assoc, List.getElem?_append_left (by simpa using hi), List.getElem?_set_ne (fun e => hni.1 e.symm), List.getElem?_set_ne (fun e => hni.2 e.symm)]
            · simp [foot] at hq'; right; omega
  · have hx : itemOK x = false := by simpa using hx
    have e : putE room l.length x = 1 := by simp [putE, hx]
    refine ⟨_, v, put_bad hx |>.trans (by rw [e]), ?_, fr_app, foot_same⟩
    rw [putL, e]; exact h.fr fr_app (F := []) (by simp) (by simp)

/-! Taking. -/
def takeL (l : List Item) (i : Int) : List Item := if 0 ≤ i ∧ i < (l.length : Int) then l.eraseIdx i.toNat else l
def takeX (l : List Item) (i : Int) : Item := if 0 ≤ i then l.getD i.toNat ⟨0, 0, 0, []⟩ else ⟨0, 0, 0, []⟩
def takeB (l : List Item) (i : Int) : Bool := decide (0 ≤ i) && decide (i < (l.length : Int))
theorem delC_en {l : List Item} {rest : List V} {i : Nat} (hi : i < l.length) : ∃ r, delC (enL l ++ rest) l.length i = enL (l.eraseIdx i) ++ r ∧ r.length = rest.length + 4 := by
  have ha : (enL (l.take i)).length = i * 4 := by rw [enL_lz (z := 4) _ rfl, List.length_take]; congr 1; omega
  have hc : (enL (l.drop (i + 1))).length = (l.length - (i + 1)) * 4 := by rw [enL_lz (z := 4) _ rfl, List.length_drop]
  have e0 : l = l.take i ++ [l[i]] ++ l.drop (i + 1) := by
    rw [List.take_append_getElem, List.take_append_drop]
  have hb : (Xc l[i]).length = 4 := rfl
  have e1 : enL l = enL (l.take i) ++ (Xc l[i] ++ enL (l.drop (i + 1))) := by
    conv => lhs; rw [e0, enL_app, enL_app, enL_one, List.append_assoc]
  have e2 : enL (l.eraseIdx i) = enL (l.take i) ++ enL (l.drop (i + 1)) := by rw [List.eraseIdx_eq_take_drop_succ, enL_app]
  have e3 : ((enL l ++ rest).drop ((i + 1) * 4)).take ((l.length - (i + 1)) * 4) = enL (l.drop (i + 1)) := by
    rw [e1, List.append_assoc, List.append_assoc, ← List.append_assoc, List.drop_left' (by rw [List.length_append, ha, hb]; omega), List.take_left' hc]
  unfold delC
  rw [e3, enL_dis, Nat.zero_add]
  generalize enL (l.take i) = A at *
  generalize enL (l.drop (i + 1)) = C at *
  have e4 : lay (enL l ++ rest) (i * 4) C = A ++ C ++ (enL l ++ rest).drop (i * 4 + C.length) := by
    unfold lay; congr 2; rw [e1, List.append_assoc, List.take_left' ha]
  rw [e4, e2]
  unfold lay
  rw [List.take_left' (by rw [List.length_append, ha, hc]; omega), List.append_assoc]
  refine ⟨_, rfl, ?_⟩
  have hl : (enL l).length = l.length * 4 := enL_lz l rfl
  simp only [List.length_append, List.length_drop, List.length_cons, List.length_nil, ha, hc, hl]
  omega
theorem takeX_get {l : List Item} {i : Nat} (hi : i < l.length) : takeX l i = l[i] := by
  unfold takeX
  rw [if_pos (by omega), Int.toNat_natCast, List.getD_eq_getElem?_getD, List.getElem?_eq_getElem hi]; rfl

set_option maxHeartbeats 1000000 in
theorem take_any {H : Heap} {lm p : Nat} {room i : Int} {l : List Item} {v : V} (h : StoreAt H p room l v) (hlp : lm ≤ p) (hlv : ∀ q ∈ foot v, lm ≤ q) (hn : l.length ≤ 1000) :
    Ev (Call tab (some lm) f_store_Store_Take [.ptr p 0, .int .i64 i] H) (fun r => ∃ H1 v1, r = some (.tup [.agg (Xc (if takeB l i then takeX l i else ⟨0, 0, 0, []⟩)), .bool (takeB l i)], H1) ∧ StoreAt H1 p room (takeL l i) v1 ∧ Fr H H1 (p :: foot v) ∧ Foot v v1 H) := by
  by_cases hi : 0 ≤ i ∧ i < (l.length : Int)
  · obtain ⟨k, rfl⟩ := Int.eq_ofNat_of_zero_le hi.1
    have hk : k < l.length := by omega
    have e : takeB l k = true := by simp [takeB]; omega
    have e' : takeL l k = l.eraseIdx k := by rw [takeL, if_pos hi, Int.toNat_natCast]
    rw [e, e', if_pos rfl]
    have hp := h.at_
    have hlt := h.lt
    rcases h.ga with ⟨rfl, rfl⟩ | ⟨q, n, rest, rfl, hq, hk', hrest, hk0⟩
    · simp at hk
    · have hqlt := (List.getElem?_eq_some_iff.1 hq).1
      have hpq : q ≠ p := fun e => h.apart (by simp [foot, e])
      have hlq : lm ≤ q := hlv q (by simp [foot])
      have el : (enL l).length = l.length * 4 := enL_lz l rfl
      have c4 : Cel.n Item = 4 := rfl
      rw [c4] at hrest
      obtain ⟨r, hr1, hr2⟩ := delC_en (rest := rest) hk
      have hx : ((enL l ++ rest).drop (k * 4)).take 4 = Xc l[k] := sc_dt (by rw [List.getElem?_eq_getElem hk])
      have el1 : (l.eraseIdx k).length = k + (l.length - (k + 1)) := by rw [List.length_eraseIdx]; split <;> omega
      refine ⟨_, .ar 4 q 0 (k + (l.length - (k + 1))) n, take_yes hp hq hpq hlp hlq hk hk' (by omega) (by rw [List.length_append, el]; omega) hx (by omega) |>.trans (by rw [takeX_get hk]), ?_, ⟨by simp, fun i hi hni => ?_⟩, fun q' hq' => .inl (show q' ∈ [q] from hq')⟩
      · rw [hr1]
        refine ⟨?_, .inr ⟨q, n, r, by rw [c4, el1], ?_, by omega, by rw [hr2, hrest, c4, el1]; omega, hk0⟩, ?_⟩
        · rw [List.append_assoc, List.getElem?_append_left (by simpa using hlt), List.getElem?_set_self (by simpa using hlt)]
        · rw [List.append_assoc, List.getElem?_append_left (by simpa using hqlt), List.getElem?_set_ne (fun e => hpq e.symm), List.getElem?_set_self hqlt]
        · simp [foot]; exact fun e => hpq e.symm
      · simp [foot] at hni
        rw [List.append_assoc, List.getElem?_append_left (by simpa using hi), List.getElem?_set_ne (fun e => hni.1 e.symm), List.getElem?_set_ne (fun e => hni.2 e.symm)]
  · have e : takeB l i = false := by simp [takeB]; omega
    have e' : takeL l i = l := by rw [takeL, if_neg hi]
    rw [e, e']
    refine ⟨H ++ [Z4], v, take_no h.at_ h.v (by omega) ⟨lm, rfl, by have := h.lt; omega⟩ |>.trans ?_, h.fr fr_app (F := []) (by simp) (by simp), fr_app, foot_same⟩
    simp [enL_nil]
theorem clear_any {H : Heap} {lm p : Nat} {room : Int} {l : List Item} {v : V} (h : StoreAt H p room l v) (hlp : lm ≤ p) :
    Ev (Call tab (some lm) f_store_Store_Clear [.ptr p 0] H) (fun r => ∃ H1, r = some (.int .i64 l.length, H1) ∧ StoreAt H1 p room [] .nls ∧ Fr H H1 [p]) :=
  ⟨_, clear_s h.at_ hlp h.v, ⟨by rw [List.getElem?_set_self h.lt], .inl ⟨rfl, rfl⟩, by simp [foot]⟩, ⟨by simp, fun i _ hn => by rw [List.getElem?_set_ne (by simp at hn; omega)]⟩⟩
theorem left_any {H : Heap} {s : Option Nat} {p : Nat} {room : Int} {l : List Item} {v : V} (h : StoreAt H p room l v) (hr : 0 ≤ room ∧ room ≤ 64) (hn : l.length ≤ 64) :
    Call tab s f_store_Store_Left [.ptr p 0] H = some (.int .i64 (room - l.length), H) := left_s h.at_ h.v hr hn
set_option maxHeartbeats 1000000 in
theorem all_nls {H : Heap} {s : Option Nat} {p : Nat} {room : Int} (hp : H[p]? = some [.int .i64 room, .nls]) :
    Call tab s f_store_Store_All [.ptr p 0] H = some (.nls, H) := by
  ((first | refine ev_is ?_ | skip); refine cl_T (cf := c_store_Store_All) rfl rfl rfl (by decide) ?_; unfold c_store_Store_All; dsimp only [initEnv, Nat.reduceAdd, Nat.zero_add])
  repeat' (first | (show zz; first | (show zo; refine y_op ?_) | (show zf; first | refine y_gF ?_ | refine y_sk ?_) | (show zm; refine y_mv ?_) | (show zr; refine y_reg ?_) | (show zc; refine y_call ?_) | (show zn; refine y_calln ?_) | (show zO; refine y_op0 ?_) | (show ze; refine y_ext ?_) | (show zt; first | refine y_gT ?_ | refine y_sk ?_) | (show zp; refine y_pk ?_) | (show zC; refine y_call0 ?_) | (show zv; refine y_cav ?_) | (show zV; refine y_cav0 ?_) | (show zF; first | refine y_hF ?_ | refine y_sk0 ?_) | (show zT; first | refine y_hT ?_ | refine y_sk0 ?_) | fail) | (show gA; first | (show gD; first | refine gc_tD ?_ | refine gc_fD ?_ | refine gc_D (fun _ => ?_) fun _ => ?_) | (show gE; first | refine gc_tE ?_ | refine gc_fE ?_ | refine gc_E (fun _ => ?_) fun _ => ?_) | (show gN; first | refine gc_tN ?_ | refine gc_fN ?_ | refine gc_N (fun _ => ?_) fun _ => ?_) | refine gc_tB ?_ | refine gc_fB ?_ | refine gc_tS ?_ | refine gc_fS ?_ | refine gc_B (fun _ => ?_) fun _ => ?_) | (show zR; first | (show zs; refine r_seq ?_) | (show zg; refine R_reg rfl ?_) | (show zd; refine y_cnd ?_) | refine r_ret ?_ | refine r_nop ?_ | refine r_blk ?_ | refine r_exit ?_ | fail) | refine k_seq_nrm ?_ | refine k_seq_ret ?_ | refine k_seq_exit ?_ | refine k_blk_nrm ?_ | refine k_blk_ret ?_ | refine k_blk_hit ?_ | refine k_blk_miss (by decide) ?_ | refine k_lp_ret ?_ | refine k_lp_exit ?_ | (show zk; refine y_fin ?_) | (show zj; refine is_ev ?_) | fail)
  refine r_loop ?_
  unfold l_store_Store_All_0
  repeat' (first | (show zz; first | (show zo; refine y_op ?_) | (show zf; first | refine y_gF ?_ | refine y_sk ?_) | (show zm; refine y_mv ?_) | (show zr; refine y_reg ?_) | (show zc; refine y_call ?_) | (show zn; refine y_calln ?_) | (show zO; refine y_op0 ?_) | (show ze; refine y_ext ?_) | (show zt; first | refine y_gT ?_ | refine y_sk ?_) | (show zp; refine y_pk ?_) | (show zC; refine y_call0 ?_) | (show zv; refine y_cav ?_) | (show zV; refine y_cav0 ?_) | (show zF; first | refine y_hF ?_ | refine y_sk0 ?_) | (show zT; first | refine y_hT ?_ | refine y_sk0 ?_) | fail) | (show gA; first | (show gD; first | refine gc_tD ?_ | refine gc_fD ?_ | refine gc_D (fun _ => ?_) fun _ => ?_) | (show gE; first | refine gc_tE ?_ | refine gc_fE ?_ | refine gc_E (fun _ => ?_) fun _ => ?_) | (show gN; first | refine gc_tN ?_ | refine gc_fN ?_ | refine gc_N (fun _ => ?_) fun _ => ?_) | refine gc_tB ?_ | refine gc_fB ?_ | refine gc_tS ?_ | refine gc_fS ?_ | refine gc_B (fun _ => ?_) fun _ => ?_) | (show zR; first | (show zs; refine r_seq ?_) | (show zg; refine R_reg rfl ?_) | (show zd; refine y_cnd ?_) | refine r_ret ?_ | refine r_nop ?_ | refine r_blk ?_ | refine r_exit ?_ | fail) | refine k_seq_nrm ?_ | refine k_seq_ret ?_ | refine k_seq_exit ?_ | refine k_blk_nrm ?_ | refine k_blk_ret ?_ | refine k_blk_hit ?_ | refine k_blk_miss (by decide) ?_ | refine k_lp_ret ?_ | refine k_lp_exit ?_ | (show zk; refine y_fin ?_) | (show zj; refine is_ev ?_) | fail)
  rfl
theorem all_any {H : Heap} {lm p : Nat} {room : Int} {l : List Item} {v : V} (h : StoreAt H p room l v) (hlp : lm ≤ p) (hb : ∀ x ∈ l, x.body.length ≤ 100) (hn : l.length ≤ 1000) :
    Ev (Call tab (some lm) f_store_Store_All [.ptr p 0] H) (fun r => ∃ v1 H1, r = some (v1, H1) ∧ Own H.length H1 v1 l ∧ Fr H H1 []) := by
  have hlt := h.lt
  rcases h.ga with ⟨rfl, rfl⟩ | ⟨q, n, rest, rfl, hq, _⟩
  · exact ⟨_, _, all_nls h.at_, .inl ⟨rfl, rfl⟩, fr_refl⟩
  · exact all_s h.at_ hq hb hn (by omega)
end Go.Abs
