/-
  StoreOrder: the law's code tells true.
-/
import Derived.Test.YtcfefgeheibadaaSt6
namespace Go.Abs
open Go.Proofs.Ytcfefgeheibadaa
attribute [local irreducible] enL R RR kSeq kBlk kLp kReg kFin kFn apply evs evX edel ekeep eins fillV lay resAll finish trim mayW frz frz1 V.rb V.rbL
def ordI (bs : List (List UInt8)) (j : Int) : Item := ⟨2, 3, j + 1, bs.getD j.toNat []⟩
def OrdP (bs : List (List UInt8)) (n : Nat) (i : Nat) (t : Heap × V × List Int) : Prop :=
  StoreAt t.1 0 n (t.2.2.map (ordI bs)) t.2.1 ∧ t.2.2.length ≤ n ∧ ∀ j ∈ t.2.2, 0 ≤ j ∧ j < (i : Int) ∧ (bs.getD j.toNat []).length ≤ 24
theorem ord_get {bs : List (List UInt8)} {i : Nat} {b : List UInt8} (h : bs[i]? = some b) : bs.getD i [] = b := by rw [List.getD_eq_getElem?_getD, h]; rfl
set_option maxHeartbeats 8000000 in
theorem ordIn {β : Type} {bs : List (List UInt8)} {ts : List UInt8} {n i : Nat} {e0 : Env} {c1 : C} {κ : Out → Option β} {Y : Option β → Prop} {G H1 : Heap} {v v1 : V} {W W2 : List Int} (hi : i < bs.length) (hn : n ≤ 40) (hl : bs.length ≤ 100)
    (hs : StoreAt G 0 n (W.map (ordI bs)) v)
    (ih : ∀ t', OrdP bs n (i + 1) t' → Ev (R tab (some 0) (.loop c1) (upd [(9, .sl (some 1) t'.2.2.length (enL t'.2.2)), (10, .int .i64 (i + 1 : Nat))] e0) t'.1 κ) Y)
    (he : e0 = [(1, .sl none bs.length (enL bs)), (2, .sl none ts.length (enL ts)), (7, .int .i64 n), (8, .ptr 0 0), (9, .sl (some 1) 0 []), (10, .int .i64 0)])
    (st : StoreAt H1 0 n (W2.map (ordI bs)) v1) (hw : W2.length ≤ n) (hj : ∀ j ∈ W2, 0 ≤ j ∧ j < ((i + 1 : Nat) : Int) ∧ (bs.getD j.toNat []).length ≤ 24) :
    Ev (R tab (some 0) (.loop l_law21_StoreOrder_0) [(1, .sl none bs.length (enL bs)), (2, .sl none ts.length (enL ts)), (7, .int .i64 n), (8, .ptr 0 0), (9, .sl (some 1) W2.length (enL W2)), (10, .int .i64 i), (12, .int .i64 0)] H1
      (kBlk 2 (kBlk 1 (kSeq tab (some 0) (.reg [1, 2, 7, 8, 9, 10] [] [] [] [(some 38, none, .mv (.t 10)), (some 39, none, .op (.bin .add) [.t 38, .k (.int .i64 (1))]), (some 10, none, .mv (.t 39))]) (kLp tab (some 0) c1 G κ))))) Y := by
  have hw1 : IntKind.i64.wrap ((i : Int) + 1) = ((i + 1 : Nat) : Int) := by rw [IntWalk.i64_in _ (by omega)]; omega
  by_cases ht : i < ts.length
  · obtain ⟨u, hu⟩ := getq ht
    have hu2 : u.toNat < 256 := u.toNat_lt
    have hc : ((u.toNat : Int)).tmod 3 = ((u.toNat % 3 : Nat) : Int) := by rw [Int.tmod_eq_emod_of_nonneg (by omega)]; omega
    have hc3 : u.toNat % 3 < 3 := Nat.mod_lt _ (by omega)
    generalize u.toNat % 3 = c at hc hc3
    refine lp_v c (fun k (t : Heap × V × List Int) => [(9, .sl (some 1) t.2.2.length (enL t.2.2)), (12, .int .i64 k)]) (fun _ t => t.1) (fun _ t => OrdP bs n (i + 1) t) ?_ ?_ (H1, v1, W2) ⟨st, hw, hj⟩
    · rintro k ⟨G', v', W'⟩ hk ⟨s', w', j'⟩ ih'
      simp only at s' w' j'
      obtain ⟨H2, v2, e2, s2, f2, _⟩ := (take_any (i := 0) s' (Nat.le_refl 0) (fun _ _ => Nat.zero_le _) (by rw [List.length_map]; omega)).so
      refine upd_to (by dsimp only [upd, lk, Nat.reduceBEq, cond_true, cond_false, Option.getD_some, Option.getD_none]; first | done | exact rfl) ?_; refine r_loop ?_
      unfold l_law21_StoreOrder_0
      cases W' with
      | nil =>
        have hb : takeB (([] : List Int).map (ordI bs)) 0 = false := rfl
        rw [hb, if_neg (by simp)] at e2
        repeat' (first | (show zz; first | (show zo; refine y_op ?_) | (show zf; first | refine y_gF ?_ | refine y_sk ?_) | (show zm; refine y_mv ?_) | (show zr; refine y_reg ?_) | (show zc; refine y_call ?_ (ha := by first | exact e2 | assumption)) | (show zn; refine y_calln ?_ (ha := by first | exact e2 | assumption)) | (show zO; refine y_op0 ?_) | (show ze; refine y_ext ?_) | (show zt; first | refine y_gT ?_ | refine y_sk ?_) | (show zp; refine y_pk ?_) | (show zC; refine y_call0 ?_ (ha := by first | exact e2 | assumption)) | (show zv; refine y_cav ?_ (ha := by first | exact e2 | assumption)) | (show zV; refine y_cav0 ?_ (ha := by first | exact e2 | assumption)) | (show zF; first | refine y_hF ?_ | refine y_sk0 ?_) | (show zT; first | refine y_hT ?_ | refine y_sk0 ?_) | fail) | (show gA; first | (show gD; first | refine gc_tD ?_ | refine gc_fD ?_ | refine gc_D (fun _ => ?_) fun _ => ?_) | (show gE; first | refine gc_tE ?_ | refine gc_fE ?_ | refine gc_E (fun _ => ?_) fun _ => ?_) | (show gN; first | refine gc_tN ?_ | refine gc_fN ?_ | refine gc_N (fun _ => ?_) fun _ => ?_) | refine gc_tB ?_ | refine gc_fB ?_ | refine gc_tS ?_ | refine gc_fS ?_ | refine gc_B (fun _ => ?_) fun _ => ?_) | (show zR; first | (show zs; refine r_seq ?_) | (show zg; refine R_reg rfl ?_) | (show zd; refine y_cnd ?_) | refine r_ret ?_ | refine r_nop ?_ | refine r_blk ?_ | refine r_exit ?_ | fail) | refine k_seq_nrm ?_ | refine k_seq_ret ?_ | refine k_seq_exit ?_ | refine k_blk_nrm ?_ | refine k_blk_ret ?_ | refine k_blk_hit ?_ | refine k_blk_miss (by decide) ?_ | refine k_lp_ret ?_ | refine k_lp_exit ?_ | (show zk; refine y_fin ?_) | (show zj; refine is_ev ?_) | fail)
        refine y_lpA fun H2' hH2 => ?_
        subst he
        exact ih (H2', v2, []) ⟨sto_round hs s2.app (Nat.le_refl 0) hH2, by simp, by simp⟩
      | cons j W' =>
        obtain ⟨j1, j2, j3⟩ := j' j (List.mem_cons_self ..)
        have hb : takeB ((j :: W').map (ordI bs)) 0 = true := by simp [takeB]
        have hx : takeX ((j :: W').map (ordI bs)) 0 = ⟨2, 3, j + 1, bs.getD j.toNat []⟩ := rfl
        have hl' : takeL ((j :: W').map (ordI bs)) 0 = W'.map (ordI bs) := by simp [takeL]
        rw [hb, if_pos rfl, hx] at e2
        rw [hl'] at s2
        have hget : bs[j.toNat]? = some (bs.getD j.toNat []) := by rw [List.getD_eq_getElem?_getD, List.getElem?_eq_getElem (by omega)]; rfl
        generalize bs.getD j.toNat [] = b at *
        have hw2 : IntKind.i64.wrap (j + 1) = j + 1 := IntWalk.i64_in _ (by omega)
        repeat' (first | (show zz; first | (show zo; refine y_op ?_) | (show zf; first | refine y_gF ?_ | refine y_sk ?_) | (show zm; refine y_mv ?_) | (show zr; refine y_reg ?_) | (show zc; refine y_call ?_ (ha := by first | exact e2 | assumption)) | (show zn; refine y_calln ?_ (ha := by first | exact e2 | assumption)) | (show zO; refine y_op0 ?_) | (show ze; refine y_ext ?_) | (show zt; first | refine y_gT ?_ | refine y_sk ?_) | (show zp; refine y_pk ?_) | (show zC; refine y_call0 ?_ (ha := by first | exact e2 | assumption)) | (show zv; refine y_cav ?_ (ha := by first | exact e2 | assumption)) | (show zV; refine y_cav0 ?_ (ha := by first | exact e2 | assumption)) | (show zF; first | refine y_hF ?_ | refine y_sk0 ?_) | (show zT; first | refine y_hT ?_ | refine y_sk0 ?_) | fail) | (show gA; first | (show gD; first | refine gc_tD ?_ | refine gc_fD ?_ | refine gc_D (fun _ => ?_) fun _ => ?_) | (show gE; first | refine gc_tE ?_ | refine gc_fE ?_ | refine gc_E (fun _ => ?_) fun _ => ?_) | (show gN; first | refine gc_tN ?_ | refine gc_fN ?_ | refine gc_N (fun _ => ?_) fun _ => ?_) | refine gc_tB ?_ | refine gc_fB ?_ | refine gc_tS ?_ | refine gc_fS ?_ | refine gc_B (fun _ => ?_) fun _ => ?_) | (show zR; first | (show zs; refine r_seq ?_) | (show zg; refine R_reg rfl ?_) | (show zd; refine y_cnd ?_) | refine r_ret ?_ | refine r_nop ?_ | refine r_blk ?_ | refine r_exit ?_ | fail) | refine k_seq_nrm ?_ | refine k_seq_ret ?_ | refine k_seq_exit ?_ | refine k_blk_nrm ?_ | refine k_blk_ret ?_ | refine k_blk_hit ?_ | refine k_blk_miss (by decide) ?_ | refine k_lp_ret ?_ | refine k_lp_exit ?_ | (show zk; refine y_fin ?_) | (show zj; refine is_ev ?_) | fail)
        refine y_lpA fun H2' hH2 => ?_
        exact ih' (H2', v2, W') ⟨sto_round s' s2.app (Nat.le_refl 0) hH2, by simp at w' ⊢; omega, fun j hj => j' j (List.mem_cons_of_mem _ hj)⟩
    · rintro ⟨G', v', W'⟩ ⟨s', w', j'⟩
      simp only at s' w' j'
      refine upd_to (by dsimp only [upd, lk, Nat.reduceBEq, cond_true, cond_false, Option.getD_some, Option.getD_none]; first | done | exact rfl) ?_; refine r_loop ?_
      unfold l_law21_StoreOrder_0
      repeat' (first | (show zz; first | (show zo; refine y_op ?_) | (show zf; first | refine y_gF ?_ | refine y_sk ?_) | (show zm; refine y_mv ?_) | (show zr; refine y_reg ?_) | (show zc; refine y_call ?_) | (show zn; refine y_calln ?_) | (show zO; refine y_op0 ?_) | (show ze; refine y_ext ?_) | (show zt; first | refine y_gT ?_ | refine y_sk ?_) | (show zp; refine y_pk ?_) | (show zC; refine y_call0 ?_) | (show zv; refine y_cav ?_) | (show zV; refine y_cav0 ?_) | (show zF; first | refine y_hF ?_ | refine y_sk0 ?_) | (show zT; first | refine y_hT ?_ | refine y_sk0 ?_) | fail) | (show gA; first | (show gD; first | refine gc_tD ?_ | refine gc_fD ?_ | refine gc_D (fun _ => ?_) fun _ => ?_) | (show gE; first | refine gc_tE ?_ | refine gc_fE ?_ | refine gc_E (fun _ => ?_) fun _ => ?_) | (show gN; first | refine gc_tN ?_ | refine gc_fN ?_ | refine gc_N (fun _ => ?_) fun _ => ?_) | refine gc_tB ?_ | refine gc_fB ?_ | refine gc_tS ?_ | refine gc_fS ?_ | refine gc_B (fun _ => ?_) fun _ => ?_) | (show zR; first | (show zs; refine r_seq ?_) | (show zg; refine R_reg rfl ?_) | (show zd; refine y_cnd ?_) | refine r_ret ?_ | refine r_nop ?_ | refine r_blk ?_ | refine r_exit ?_ | fail) | refine k_seq_nrm ?_ | refine k_seq_ret ?_ | refine k_seq_exit ?_ | refine k_blk_nrm ?_ | refine k_blk_ret ?_ | refine k_blk_hit ?_ | refine k_blk_miss (by decide) ?_ | refine k_lp_ret ?_ | refine k_lp_exit ?_ | (show zk; refine y_fin ?_) | (show zj; refine is_ev ?_) | fail)
      refine y_lpA fun H2' hH2 => ?_
      subst he
      exact ih (H2', v', W') ⟨sto_round hs s' (Nat.le_refl 0) hH2, w', j'⟩
  · refine r_loop ?_
    unfold l_law21_StoreOrder_0
    repeat' (first | (show zz; first | (show zo; refine y_op ?_) | (show zf; first | refine y_gF ?_ | refine y_sk ?_) | (show zm; refine y_mv ?_) | (show zr; refine y_reg ?_) | (show zc; refine y_call ?_) | (show zn; refine y_calln ?_) | (show zO; refine y_op0 ?_) | (show ze; refine y_ext ?_) | (show zt; first | refine y_gT ?_ | refine y_sk ?_) | (show zp; refine y_pk ?_) | (show zC; refine y_call0 ?_) | (show zv; refine y_cav ?_) | (show zV; refine y_cav0 ?_) | (show zF; first | refine y_hF ?_ | refine y_sk0 ?_) | (show zT; first | refine y_hT ?_ | refine y_sk0 ?_) | fail) | (show gA; first | (show gD; first | refine gc_tD ?_ | refine gc_fD ?_ | refine gc_D (fun _ => ?_) fun _ => ?_) | (show gE; first | refine gc_tE ?_ | refine gc_fE ?_ | refine gc_E (fun _ => ?_) fun _ => ?_) | (show gN; first | refine gc_tN ?_ | refine gc_fN ?_ | refine gc_N (fun _ => ?_) fun _ => ?_) | refine gc_tB ?_ | refine gc_fB ?_ | refine gc_tS ?_ | refine gc_fS ?_ | refine gc_B (fun _ => ?_) fun _ => ?_) | (show zR; first | (show zs; refine r_seq ?_) | (show zg; refine R_reg rfl ?_) | (show zd; refine y_cnd ?_) | refine r_ret ?_ | refine r_nop ?_ | refine r_blk ?_ | refine r_exit ?_ | fail) | refine k_seq_nrm ?_ | refine k_seq_ret ?_ | refine k_seq_exit ?_ | refine k_blk_nrm ?_ | refine k_blk_ret ?_ | refine k_blk_hit ?_ | refine k_blk_miss (by decide) ?_ | refine k_lp_ret ?_ | refine k_lp_exit ?_ | (show zk; refine y_fin ?_) | (show zj; refine is_ev ?_) | fail)
    refine y_lpA fun H2' hH2 => ?_
    subst he
    exact ih (H2', v1, W2) ⟨sto_round hs st (Nat.le_refl 0) hH2, hw, hj⟩
set_option maxHeartbeats 8000000 in
theorem storeOrder {us : List V} (h : TyAs [.int .u8, .sl (.sl (.int .u8)), .sl (.int .u8)] us) : Call tab none f_law21_StoreOrder us [] = some (.bool true, []) := by
  obtain ⟨_, _, rfl, h1, _, _, rfl, h2, _, _, rfl, h3, rfl⟩ := h
  obtain ⟨a, rfl, ha⟩ := ty_int h1
  obtain ⟨bs, rfl, _, _⟩ := ty_sl (α := List UInt8) (fun _ h => tv_sl (fun _ => tv_u8) h) h2
  obtain ⟨ts, rfl, _, _⟩ := ty_sl (fun _ => tv_u8) h3
  have ha := wf_u8 ha
  clear h1 h2 h3
  obtain ⟨n, hn, hn1, hn2⟩ : ∃ n : Nat, IntKind.i64.wrap (1 + a.tmod 40) = n ∧ 1 ≤ n ∧ n ≤ 40 := by
    rw [Int.tmod_eq_emod_of_nonneg (by omega), IntWalk.i64_in _ (by omega)]
    exact ⟨(1 + a % 40).toNat, by omega, by omega, by omega⟩
  have hm : min (max (n : Int) 0) 64 = n := by omega
  ((first | refine ev_is ?_ | skip); refine cl_P (H0 := []) (cf := c_law21_StoreOrder) rfl rfl rfl rfl (by (repeat' (first | assumption | exact enL_rb _ _ | exact rb_int | exact rb_bool | exact rb_str | exact rb_nil | refine rb_sl ?_ | refine rb_cons ?_ ?_ | refine rb_set ?_ ?_ | refine rb_agg ?_ | refine rb_app ?_ ?_ | refine rb_ptr ?_ | (simp only [V.rb]; done) | (simp only [V.rb, V.rbL]; done) | exact Nat.lt_of_lt_of_le (Nat.lt_succ_self _) (Nat.le_of_ble_eq_true rfl) | omega)); (first | done | fail)) ?_; unfold c_law21_StoreOrder; dsimp only [initEnv, Nat.reduceAdd, Nat.zero_add])
  by_cases hl : bs.length ≤ 100 ∧ ts.length ≤ 200
  · repeat' (first | (show zz; first | (show zo; refine y_op ?_) | (show zf; first | refine y_gF ?_ | refine y_sk ?_) | (show zm; refine y_mv ?_) | (show zr; refine y_reg ?_) | (show zc; refine y_call ?_ (ha := by first | exact alive21_s | exact new_s | assumption)) | (show zn; refine y_calln ?_ (ha := by first | exact alive21_s | exact new_s | assumption)) | (show zO; refine y_op0 ?_) | (show ze; refine y_ext ?_) | (show zt; first | refine y_gT ?_ | refine y_sk ?_) | (show zp; refine y_pk ?_) | (show zC; refine y_call0 ?_ (ha := by first | exact alive21_s | exact new_s | assumption)) | (show zv; refine y_cav ?_ (ha := by first | exact alive21_s | exact new_s | assumption)) | (show zV; refine y_cav0 ?_ (ha := by first | exact alive21_s | exact new_s | assumption)) | (show zF; first | refine y_hF ?_ | refine y_sk0 ?_) | (show zT; first | refine y_hT ?_ | refine y_sk0 ?_) | fail) | (show gA; first | (show gD; first | refine gc_tD ?_ | refine gc_fD ?_ | refine gc_D (fun _ => ?_) fun _ => ?_) | (show gE; first | refine gc_tE ?_ | refine gc_fE ?_ | refine gc_E (fun _ => ?_) fun _ => ?_) | (show gN; first | refine gc_tN ?_ | refine gc_fN ?_ | refine gc_N (fun _ => ?_) fun _ => ?_) | refine gc_tB ?_ | refine gc_fB ?_ | refine gc_tS ?_ | refine gc_fS ?_ | refine gc_B (fun _ => ?_) fun _ => ?_) | (show zR; first | (show zs; refine r_seq ?_) | (show zg; refine R_reg rfl ?_) | (show zd; refine y_cnd ?_) | refine r_ret ?_ | refine r_nop ?_ | refine r_blk ?_ | refine r_exit ?_ | fail) | refine k_seq_nrm ?_ | refine k_seq_ret ?_ | refine k_seq_exit ?_ | refine k_blk_nrm ?_ | refine k_blk_ret ?_ | refine k_blk_hit ?_ | refine k_blk_miss (by decide) ?_ | refine k_lp_ret ?_ | refine k_lp_exit ?_ | (show zk; refine y_fin ?_) | (show zj; refine is_ev ?_) | fail)
    rw [hm]
    have s0 : StoreAt [[.int .i64 n, .nls]] 0 n [] .nls := ⟨rfl, .inl ⟨rfl, rfl⟩, by simp [foot]⟩
    refine lp_v bs.length (fun i (t : Heap × V × List Int) => [(9, .sl (some 1) t.2.2.length (enL t.2.2)), (10, .int .i64 i)]) (fun _ t => t.1) (OrdP bs n) ?_ ?_ (_, .nls, []) ⟨s0, by simp, by simp⟩
    · rintro i ⟨G, v, W⟩ hi ⟨hs, hw, hj⟩ ih
      simp only at hs hw hj
      obtain ⟨b, hb⟩ := getq hi
      have hbg := ord_get hb
      refine upd_to (by dsimp only [upd, lk, Nat.reduceBEq, cond_true, cond_false, Option.getD_some, Option.getD_none]; first | done | exact rfl) ?_; refine r_loop ?_
      unfold l_law21_StoreOrder_1
      by_cases hb24 : b.length ≤ 24
      · obtain ⟨H1, v1, e, st, fr, ft⟩ := (put_any (x := ⟨2, 3, (i : Int) + 1, b⟩) hs (Nat.le_refl 0) (fun _ _ => Nat.zero_le _) (by rw [List.length_map]; omega)).so
        have hok : itemOK ⟨2, 3, (i : Int) + 1, b⟩ = true := by simp only [itemOK, pOK, Bool.and_eq_true, decide_eq_true_eq]; omega
        have hw1 : IntKind.i64.wrap ((i : Int) + 1) = (i : Int) + 1 := IntWalk.i64_in _ (by omega)
        rw [List.length_map] at e
        by_cases hr : W.length < n
        · have hE : putE n W.length ⟨2, 3, (i : Int) + 1, b⟩ = 0 := by rw [putE, if_pos hok, if_neg (by simpa using hb24), if_neg (by omega)]
          rw [hE] at e
          rw [putL, List.length_map, hE, if_pos rfl] at st
          have st2 : StoreAt H1 0 n ((W ++ [(i : Int)]).map (ordI bs)) v1 := by
            rw [List.map_append, List.map_cons, List.map_nil, ordI, Int.toNat_natCast, hbg]; exact st
          have hw2 : (W ++ [(i : Int)]).length ≤ n := by simp; omega
          have hj2 : ∀ j ∈ W ++ [(i : Int)], 0 ≤ j ∧ j < ((i + 1 : Nat) : Int) ∧ (bs.getD j.toNat []).length ≤ 24 := by
            intro j hjm
            rcases List.mem_append.1 hjm with h | h
            · obtain ⟨q1, q2, q3⟩ := hj j h; exact ⟨q1, by omega, q3⟩
            · simp at h; subst h; exact ⟨by omega, by omega, by rw [Int.toNat_natCast, hbg]; exact hb24⟩
          repeat' (first | (show zz; first | (show zo; refine y_op ?_) | (show zf; first | refine y_gF ?_ | refine y_sk ?_) | (show zm; refine y_mv ?_) | (show zr; refine y_reg ?_) | (show zc; refine y_call ?_ (ha := by first | exact e | assumption)) | (show zn; refine y_calln ?_ (ha := by first | exact e | assumption)) | (show zO; refine y_op0 ?_) | (show ze; refine y_ext ?_) | (show zt; first | refine y_gT ?_ | refine y_sk ?_) | (show zp; refine y_pk ?_) | (show zC; refine y_call0 ?_ (ha := by first | exact e | assumption)) | (show zv; refine y_cav ?_ (ha := by first | exact e | assumption)) | (show zV; refine y_cav0 ?_ (ha := by first | exact e | assumption)) | (show zF; first | refine y_hF ?_ | refine y_sk0 ?_) | (show zT; first | refine y_hT ?_ | refine y_sk0 ?_) | fail) | (show gA; first | (show gD; first | refine gc_tD ?_ | refine gc_fD ?_ | refine gc_D (fun _ => ?_) fun _ => ?_) | (show gE; first | refine gc_tE ?_ | refine gc_fE ?_ | refine gc_E (fun _ => ?_) fun _ => ?_) | (show gN; first | refine gc_tN ?_ | refine gc_fN ?_ | refine gc_N (fun _ => ?_) fun _ => ?_) | refine gc_tB ?_ | refine gc_fB ?_ | refine gc_tS ?_ | refine gc_fS ?_ | refine gc_B (fun _ => ?_) fun _ => ?_) | (show zR; first | (show zs; refine r_seq ?_) | (show zg; refine R_reg rfl ?_) | (show zd; refine y_cnd ?_) | refine r_ret ?_ | refine r_nop ?_ | refine r_blk ?_ | refine r_exit ?_ | fail) | refine k_seq_nrm ?_ | refine k_seq_ret ?_ | refine k_seq_exit ?_ | refine k_blk_nrm ?_ | refine k_blk_ret ?_ | refine k_blk_hit ?_ | refine k_blk_miss (by decide) ?_ | refine k_lp_ret ?_ | refine k_lp_exit ?_ | (show zk; refine y_fin ?_) | (show zj; refine is_ev ?_) | fail)
          generalize W ++ [(i : Int)] = W2 at st2 hw2 hj2 ⊢
          exact ordIn hi hn2 hl.1 hs ih rfl st2 hw2 hj2
        · have hE : putE n W.length ⟨2, 3, (i : Int) + 1, b⟩ = 15 := by rw [putE, if_pos hok, if_neg (by simpa using hb24), if_pos (by omega)]
          rw [hE] at e
          rw [putL, List.length_map, hE, if_neg (by decide)] at st
          have hj2 : ∀ j ∈ W, 0 ≤ j ∧ j < ((i + 1 : Nat) : Int) ∧ (bs.getD j.toNat []).length ≤ 24 := fun j hjm => by
            obtain ⟨q1, q2, q3⟩ := hj j hjm; exact ⟨q1, by omega, q3⟩
          repeat' (first | (show zz; first | (show zo; refine y_op ?_) | (show zf; first | refine y_gF ?_ | refine y_sk ?_) | (show zm; refine y_mv ?_) | (show zr; refine y_reg ?_) | (show zc; refine y_call ?_ (ha := by first | exact e | assumption)) | (show zn; refine y_calln ?_ (ha := by first | exact e | assumption)) | (show zO; refine y_op0 ?_) | (show ze; refine y_ext ?_) | (show zt; first | refine y_gT ?_ | refine y_sk ?_) | (show zp; refine y_pk ?_) | (show zC; refine y_call0 ?_ (ha := by first | exact e | assumption)) | (show zv; refine y_cav ?_ (ha := by first | exact e | assumption)) | (show zV; refine y_cav0 ?_ (ha := by first | exact e | assumption)) | (show zF; first | refine y_hF ?_ | refine y_sk0 ?_) | (show zT; first | refine y_hT ?_ | refine y_sk0 ?_) | fail) | (show gA; first | (show gD; first | refine gc_tD ?_ | refine gc_fD ?_ | refine gc_D (fun _ => ?_) fun _ => ?_) | (show gE; first | refine gc_tE ?_ | refine gc_fE ?_ | refine gc_E (fun _ => ?_) fun _ => ?_) | (show gN; first | refine gc_tN ?_ | refine gc_fN ?_ | refine gc_N (fun _ => ?_) fun _ => ?_) | refine gc_tB ?_ | refine gc_fB ?_ | refine gc_tS ?_ | refine gc_fS ?_ | refine gc_B (fun _ => ?_) fun _ => ?_) | (show zR; first | (show zs; refine r_seq ?_) | (show zg; refine R_reg rfl ?_) | (show zd; refine y_cnd ?_) | refine r_ret ?_ | refine r_nop ?_ | refine r_blk ?_ | refine r_exit ?_ | fail) | refine k_seq_nrm ?_ | refine k_seq_ret ?_ | refine k_seq_exit ?_ | refine k_blk_nrm ?_ | refine k_blk_ret ?_ | refine k_blk_hit ?_ | refine k_blk_miss (by decide) ?_ | refine k_lp_ret ?_ | refine k_lp_exit ?_ | (show zk; refine y_fin ?_) | (show zj; refine is_ev ?_) | fail)
          exact ordIn hi hn2 hl.1 hs ih rfl st hw hj2
      · repeat' (first | (show zz; first | (show zo; refine y_op ?_) | (show zf; first | refine y_gF ?_ | refine y_sk ?_) | (show zm; refine y_mv ?_) | (show zr; refine y_reg ?_) | (show zc; refine y_call ?_) | (show zn; refine y_calln ?_) | (show zO; refine y_op0 ?_) | (show ze; refine y_ext ?_) | (show zt; first | refine y_gT ?_ | refine y_sk ?_) | (show zp; refine y_pk ?_) | (show zC; refine y_call0 ?_) | (show zv; refine y_cav ?_) | (show zV; refine y_cav0 ?_) | (show zF; first | refine y_hF ?_ | refine y_sk0 ?_) | (show zT; first | refine y_hT ?_ | refine y_sk0 ?_) | fail) | (show gA; first | (show gD; first | refine gc_tD ?_ | refine gc_fD ?_ | refine gc_D (fun _ => ?_) fun _ => ?_) | (show gE; first | refine gc_tE ?_ | refine gc_fE ?_ | refine gc_E (fun _ => ?_) fun _ => ?_) | (show gN; first | refine gc_tN ?_ | refine gc_fN ?_ | refine gc_N (fun _ => ?_) fun _ => ?_) | refine gc_tB ?_ | refine gc_fB ?_ | refine gc_tS ?_ | refine gc_fS ?_ | refine gc_B (fun _ => ?_) fun _ => ?_) | (show zR; first | (show zs; refine r_seq ?_) | (show zg; refine R_reg rfl ?_) | (show zd; refine y_cnd ?_) | refine r_ret ?_ | refine r_nop ?_ | refine r_blk ?_ | refine r_exit ?_ | fail) | refine k_seq_nrm ?_ | refine k_seq_ret ?_ | refine k_seq_exit ?_ | refine k_blk_nrm ?_ | refine k_blk_ret ?_ | refine k_blk_hit ?_ | refine k_blk_miss (by decide) ?_ | refine k_lp_ret ?_ | refine k_lp_exit ?_ | (show zk; refine y_fin ?_) | (show zj; refine is_ev ?_) | fail)
        rfl
    · rintro ⟨G, v, W⟩ ⟨hs, hw, hj⟩
      simp only at hs hw hj
      obtain ⟨H1, e1, s1, f1⟩ := (clear_any hs (Nat.le_refl 0)).so
      have e0 := left_any (s := some 0) hs (by omega) (by rw [List.length_map]; omega)
      have e2 := left_any (s := some 0) s1 (by omega) (by simp)
      rw [List.length_map] at e0 e1
      rw [List.length_nil, Int.ofNat_zero, Int.sub_zero] at e2
      have q1 : IntKind.i64.wrap ((n : Int) - W.length) = (n : Int) - W.length := IntWalk.i64_in _ (by omega)
      refine upd_to (by dsimp only [upd, lk, Nat.reduceBEq, cond_true, cond_false, Option.getD_some, Option.getD_none]; first | done | exact rfl) ?_; refine r_loop ?_
      unfold l_law21_StoreOrder_1
      repeat' (first | (show zz; first | (show zo; refine y_op ?_) | (show zf; first | refine y_gF ?_ | refine y_sk ?_) | (show zm; refine y_mv ?_) | (show zr; refine y_reg ?_) | (show zc; refine y_call ?_ (ha := by first | exact e0 | exact e1 | exact e2 | assumption)) | (show zn; refine y_calln ?_ (ha := by first | exact e0 | exact e1 | exact e2 | assumption)) | (show zO; refine y_op0 ?_) | (show ze; refine y_ext ?_) | (show zt; first | refine y_gT ?_ | refine y_sk ?_) | (show zp; refine y_pk ?_) | (show zC; refine y_call0 ?_ (ha := by first | exact e0 | exact e1 | exact e2 | assumption)) | (show zv; refine y_cav ?_ (ha := by first | exact e0 | exact e1 | exact e2 | assumption)) | (show zV; refine y_cav0 ?_ (ha := by first | exact e0 | exact e1 | exact e2 | assumption)) | (show zF; first | refine y_hF ?_ | refine y_sk0 ?_) | (show zT; first | refine y_hT ?_ | refine y_sk0 ?_) | fail) | (show gA; first | (show gD; first | refine gc_tD ?_ | refine gc_fD ?_ | refine gc_D (fun _ => ?_) fun _ => ?_) | (show gE; first | refine gc_tE ?_ | refine gc_fE ?_ | refine gc_E (fun _ => ?_) fun _ => ?_) | (show gN; first | refine gc_tN ?_ | refine gc_fN ?_ | refine gc_N (fun _ => ?_) fun _ => ?_) | refine gc_tB ?_ | refine gc_fB ?_ | refine gc_tS ?_ | refine gc_fS ?_ | refine gc_B (fun _ => ?_) fun _ => ?_) | (show zR; first | (show zs; refine r_seq ?_) | (show zg; refine R_reg rfl ?_) | (show zd; refine y_cnd ?_) | refine r_ret ?_ | refine r_nop ?_ | refine r_blk ?_ | refine r_exit ?_ | fail) | refine k_seq_nrm ?_ | refine k_seq_ret ?_ | refine k_seq_exit ?_ | refine k_blk_nrm ?_ | refine k_blk_ret ?_ | refine k_blk_hit ?_ | refine k_blk_miss (by decide) ?_ | refine k_lp_ret ?_ | refine k_lp_exit ?_ | (show zk; refine y_fin ?_) | (show zj; refine is_ev ?_) | fail)
      all_goals (simp; done)
  · repeat' (first | (show zz; first | (show zo; refine y_op ?_) | (show zf; first | refine y_gF ?_ | refine y_sk ?_) | (show zm; refine y_mv ?_) | (show zr; refine y_reg ?_) | (show zc; refine y_call ?_ (ha := by first | exact alive21_s | assumption)) | (show zn; refine y_calln ?_ (ha := by first | exact alive21_s | assumption)) | (show zO; refine y_op0 ?_) | (show ze; refine y_ext ?_) | (show zt; first | refine y_gT ?_ | refine y_sk ?_) | (show zp; refine y_pk ?_) | (show zC; refine y_call0 ?_ (ha := by first | exact alive21_s | assumption)) | (show zv; refine y_cav ?_ (ha := by first | exact alive21_s | assumption)) | (show zV; refine y_cav0 ?_ (ha := by first | exact alive21_s | assumption)) | (show zF; first | refine y_hF ?_ | refine y_sk0 ?_) | (show zT; first | refine y_hT ?_ | refine y_sk0 ?_) | fail) | (show gA; first | (show gD; first | refine gc_tD ?_ | refine gc_fD ?_ | refine gc_D (fun _ => ?_) fun _ => ?_) | (show gE; first | refine gc_tE ?_ | refine gc_fE ?_ | refine gc_E (fun _ => ?_) fun _ => ?_) | (show gN; first | refine gc_tN ?_ | refine gc_fN ?_ | refine gc_N (fun _ => ?_) fun _ => ?_) | refine gc_tB ?_ | refine gc_fB ?_ | refine gc_tS ?_ | refine gc_fS ?_ | refine gc_B (fun _ => ?_) fun _ => ?_) | (show zR; first | (show zs; refine r_seq ?_) | (show zg; refine R_reg rfl ?_) | (show zd; refine y_cnd ?_) | refine r_ret ?_ | refine r_nop ?_ | refine r_blk ?_ | refine r_exit ?_ | fail) | refine k_seq_nrm ?_ | refine k_seq_ret ?_ | refine k_seq_exit ?_ | refine k_blk_nrm ?_ | refine k_blk_ret ?_ | refine k_blk_hit ?_ | refine k_blk_miss (by decide) ?_ | refine k_lp_ret ?_ | refine k_lp_exit ?_ | (show zk; refine y_fin ?_) | (show zj; refine is_ev ?_) | fail)
    all_goals rfl
end Go.Abs
