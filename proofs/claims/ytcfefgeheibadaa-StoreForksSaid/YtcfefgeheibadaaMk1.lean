/-
  What the functions of the package mark, and of the document's own answer for it, come to.
-/
import Derived.Test.YtcfefgeheibadaaCode
import Derived.Test.YtcfefgeheibadaaEncB
namespace Go.Abs
open Go.Proofs.Ytcfefgeheibadaa
attribute [local irreducible] enL R RR kSeq kBlk kLp kReg kFin kFn apply evs evX edel ekeep eins fillV lay resAll finish trim mayW frz frz1 V.rb V.rbL

theorem clone_b {s : Option Nat} {own : Option Nat} {l : List UInt8} {H : Heap} (h : l.length ≤ 140737488355328) : Call tab s f_slices_Clone_byte_byte [.sl own l.length (enL l)] H = some (.sl (some 1) l.length (enL l), H) := by
  rw [Call_prim (p := primClone 1 1) rfl]
  have h1 : V.rbL 0 (enL l) = true := enL_rb 0 l
  have h2 : (enL l).length = l.length := enL_l1 l rfl
  simp [primClone, h1, h2, room, h, V.noVia]
theorem copy_b {s : Option Nat} {l : List UInt8} {H : Heap} (h : l.length ≤ 140737488355328) : Call tab s f_ref1_Copy [.sl none l.length (enL l)] H = some (.sl (some 1) l.length (enL l), H) := by
  ((first | refine ev_is ?_ | skip); refine cl_P (H0 := []) (cf := c_ref1_Copy) rfl rfl rfl rfl (by (repeat' (first | assumption | exact enL_rb _ _ | exact rb_int | exact rb_bool | exact rb_str | exact rb_nil | refine rb_sl ?_ | refine rb_cons ?_ ?_ | refine rb_set ?_ ?_ | refine rb_agg ?_ | refine rb_app ?_ ?_ | refine rb_ptr ?_ | (simp only [V.rb]; done) | (simp only [V.rb, V.rbL]; done) | exact Nat.lt_of_lt_of_le (Nat.lt_succ_self _) (Nat.le_of_ble_eq_true rfl) | omega)); (first | done | fail)) ?_; unfold c_ref1_Copy; dsimp only [initEnv, Nat.reduceAdd, Nat.zero_add])
  repeat' (first | (show zz; first | (show zo; refine y_op ?_) | (show zf; first | refine y_gF ?_ | refine y_sk ?_) | (show zm; refine y_mv ?_) | (show zr; refine y_reg ?_) | (show zc; refine y_call ?_) | (show zn; refine y_calln ?_) | (show zO; refine y_op0 ?_) | (show ze; refine y_ext ?_) | (show zt; first | refine y_gT ?_ | refine y_sk ?_) | (show zp; refine y_pk ?_) | (show zC; refine y_call0 ?_) | (show zv; refine y_cav ?_) | (show zV; refine y_cav0 ?_) | (show zF; first | refine y_hF ?_ | refine y_sk0 ?_) | (show zT; first | refine y_hT ?_ | refine y_sk0 ?_) | fail) | (show gA; first | (show gD; first | refine gc_tD ?_ | refine gc_fD ?_ | refine gc_D (fun _ => ?_) fun _ => ?_) | (show gE; first | refine gc_tE ?_ | refine gc_fE ?_ | refine gc_E (fun _ => ?_) fun _ => ?_) | (show gN; first | refine gc_tN ?_ | refine gc_fN ?_ | refine gc_N (fun _ => ?_) fun _ => ?_) | refine gc_tB ?_ | refine gc_fB ?_ | refine gc_tS ?_ | refine gc_fS ?_ | refine gc_B (fun _ => ?_) fun _ => ?_) | (show zR; first | (show zs; refine r_seq ?_) | (show zg; refine R_reg rfl ?_) | (show zd; refine y_cnd ?_) | refine r_ret ?_ | refine r_nop ?_ | refine r_blk ?_ | refine r_exit ?_ | fail) | refine k_seq_nrm ?_ | refine k_seq_ret ?_ | refine k_seq_exit ?_ | refine k_blk_nrm ?_ | refine k_blk_ret ?_ | refine k_blk_hit ?_ | refine k_blk_miss (by decide) ?_ | refine k_lp_ret ?_ | refine k_lp_exit ?_ | (show zk; refine y_fin ?_) | (show zj; refine is_ev ?_) | fail)
  rfl
theorem rb_ptr0 {id o : Nat} {r : List V} : V.rbL 0 (.ptr id o :: r) = false := by simp [V.rbL, V.rb]

/-! A log. -/
def ints (l : List Int) : List V := l.map (.int .i64)
def logV (last : List Int) (n : Int) (gs : List Got) : List V := ints last ++ [.int .i64 n, .sl (some 4) gs.length (enL gs)]
def rlogV (last : List Int) (n : Int) (gs : List Got) : List V := .int .i64 n :: (ints last ++ [.sl (some 4) gs.length (enL gs)])
def handOK (last : List Int) (n : Int) (x : Item) : Bool := decide (0 ≤ x.frm) && decide (x.frm < n) && decide (last.getD x.frm.toNat 0 < x.seq)
def handGot (last : List Int) (x : Item) : Got := ⟨x.frm, x.seq, IntKind.i64.wrap (x.seq - 1) != last.getD x.frm.toNat 0, x.body⟩
def hLast (last : List Int) (n : Int) (x : Item) : List Int := if handOK last n x then last.set x.frm.toNat x.seq else last
def hGs (last : List Int) (n : Int) (gs : List Got) (x : Item) : List Got := if handOK last n x then gs ++ [handGot last x] else gs
theorem hLast_len {last : List Int} {n : Int} {x : Item} (h : last.length = 6) : (hLast last n x).length = 6 := by unfold hLast; split <;> simp [h]
theorem hGs_len {last : List Int} {n : Int} {x : Item} {gs : List Got} : (hGs last n gs x).length ≤ gs.length + 1 := by unfold hGs; split <;> simp
theorem hGs_body {last : List Int} {n : Int} {x : Item} {gs : List Got} {m : Nat} (h : ∀ y ∈ gs, y.body.length ≤ m) (hx : x.body.length ≤ m) : ∀ y ∈ hGs last n gs x, y.body.length ≤ m := by
  unfold hGs; split
  · intro y hy
    rcases List.mem_append.1 hy with hy | hy
    · exact h y hy
    · simp at hy; subst hy; exact hx
  · exact h
theorem set_same {α : Type} {l : List α} {i : Nat} {a : α} (h : l[i]? = some a) : l.set i a = l := by
  obtain ⟨hl, rfl⟩ := List.getElem?_eq_some_iff.1 h
  exact List.set_getElem_self hl

theorem rb_ints {m} : ∀ l : List Int, V.rbL m (ints l) = true
  | [] => rb_nil
  | x :: l => rb_cons rb_int (rb_ints l)
theorem logV_rb {m last n gs} : V.rbL m (logV last n gs) = true := by unfold logV; exact rb_app (rb_ints _) (rb_cons rb_int (rb_cons (rb_sl (enL_rb _ _)) rb_nil))
theorem rlogV_rb {m last n gs} : V.rbL m (rlogV last n gs) = true := by unfold rlogV; exact rb_cons rb_int (rb_app (rb_ints _) (rb_cons (rb_sl (enL_rb _ _)) rb_nil))
theorem logV_6 {last n gs} (h : last.length = 6) : (logV last n gs)[6]? = some (.int .i64 n) := by
  unfold logV ints; rw [List.getElem?_append_right (by simp [h])]; simp [h]
theorem logV_7 {last n gs} (h : last.length = 6) : (logV last n gs)[7]? = some (.sl (some 4) gs.length (enL gs)) := by
  unfold logV ints; rw [List.getElem?_append_right (by simp [h])]; simp [h]
theorem logV_i {last n gs} {i : Nat} (h : i < last.length) : (logV last n gs)[i]? = some (.int .i64 (last.getD i 0)) := by
  unfold logV ints; rw [List.getElem?_append_left (by simpa using h)]; simp [h, List.getD_eq_getElem?_getD]
theorem logV_s7 {last n gs} (h : last.length = 6) (v : V) : (logV last n gs).set 7 v = ints last ++ [.int .i64 n, v] := by
  unfold logV ints; rw [List.set_append_right _ _ (by simp [h])]; simp [h]
theorem logV_step {last n gs} {i : Nat} {seq : Int} {v : V} {g : Got} (h : last.length = 6) (hi : i < 6) :
    (((logV last n gs).set 7 v).set 7 (.sl (some 4) (gs ++ [g]).length (enL (gs ++ [g])))).set i (.int .i64 seq) = logV (last.set i seq) n (gs ++ [g]) := by
  rw [List.set_set, logV_s7 h, ints, List.set_append_left _ _ (by simpa [h] using hi)]
  simp [logV, ints, List.map_set]
theorem rlogV_7 {last n gs} (h : last.length = 6) : (rlogV last n gs)[7]? = some (.sl (some 4) gs.length (enL gs)) := by
  unfold rlogV ints; rw [List.getElem?_cons_succ, List.getElem?_append_right (by simp [h])]; simp [h]
theorem rlogV_i {last n gs} {i : Nat} (h : i < last.length) : (rlogV last n gs)[1 + i]? = some (.int .i64 (last.getD i 0)) := by
  unfold rlogV ints; rw [Nat.add_comm, List.getElem?_cons_succ, List.getElem?_append_left (by simpa using h)]; simp [h, List.getD_eq_getElem?_getD]
theorem rlogV_step {last n gs} {i : Nat} {seq : Int} {v : V} {g : Got} (h : last.length = 6) (hi : i < 6) :
    (((rlogV last n gs).set 7 v).set 7 (.sl (some 4) (gs ++ [g]).length (enL (gs ++ [g])))).set (1 + i) (.int .i64 seq) = rlogV (last.set i seq) n (gs ++ [g]) := by
  rw [List.set_set]
  unfold rlogV ints
  rw [List.set_cons_succ, List.set_append_right _ _ (by simp [h]), Nat.add_comm 1 i, List.set_cons_succ, List.set_append_left _ _ (by simpa [h] using hi)]
  simp [h, List.map_set]

set_option maxRecDepth 100000 in
set_option maxHeartbeats 1000000 in
theorem markHand {H : Heap} {id l : Nat} {last : List Int} {n : Int} {gs : List Got} {x : Item} (hid : H[id]? = some (logV last n gs)) (h6 : last.length = 6) (hn : n ≤ 6) (hb : x.body.length ≤ 140737488351232) (hg : gs.length ≤ 1000000) (hlid : l ≤ id) :
    Call tab (some l) f_mark_Log_Hand [.ptr id 0, .agg [.int .i64 x.frm, .int .i64 x.to, .int .i64 x.seq, .sl none x.body.length (enL x.body)]] H = some (.bool (handOK last n x), H.set id (logV (hLast last n x) n (hGs last n gs x))) := by
  have k6 := logV_6 (n := n) (gs := gs) h6
  have k7 := logV_7 (n := n) (gs := gs) h6
  have k9 := logV_rb (m := H.length) (last := last) (n := n) (gs := gs)
  have k8 := set_same hid
  have ki : 0 ≤ x.frm → x.frm < n → (logV last n gs)[x.frm.toNat]? = some (.int .i64 (last.getD x.frm.toNat 0)) := fun a b => logV_i (by omega)
  have fin2 : ∀ v, x.frm.toNat < 6 → _ := fun v hi => logV_step (n := n) (gs := gs) (seq := x.seq) (v := v) (g := handGot last x) h6 hi
  unfold hLast hGs
  generalize hcs : logV last n gs = cs at *
  ((first | refine ev_is ?_ | skip); refine cl_T (cf := c_mark_Log_Hand) rfl rfl rfl (by decide) ?_; unfold c_mark_Log_Hand; dsimp only [initEnv, Nat.reduceAdd, Nat.zero_add])
  by_cases h1 : 0 ≤ x.frm ∧ x.frm < n
  · have ki' := ki h1.1 h1.2
    repeat' (first | (show zz; first | (show zo; refine y_op ?_) | (show zf; first | refine y_gF ?_ | refine y_sk ?_) | (show zm; refine y_mv ?_) | (show zr; refine y_reg ?_) | (show zc; refine y_call ?_ (ha := by first | exact clone_b (by omega) | assumption)) | (show zn; refine y_calln ?_ (ha := by first | exact clone_b (by omega) | assumption)) | (show zO; refine y_op0 ?_) | (show ze; refine y_ext ?_) | (show zt; first | refine y_gT ?_ | refine y_sk ?_) | (show zp; refine y_pk ?_) | (show zC; refine y_call0 ?_ (ha := by first | exact clone_b (by omega) | assumption)) | (show zv; refine y_cav ?_ (ha := by first | exact clone_b (by omega) | assumption)) | (show zV; refine y_cav0 ?_ (ha := by first | exact clone_b (by omega) | assumption)) | (show zF; first | refine y_hF ?_ | refine y_sk0 ?_) | (show zT; first | refine y_hT ?_ | refine y_sk0 ?_) | fail) | (show gA; first | (show gD; first | refine gc_tD ?_ | refine gc_fD ?_ | refine gc_D (fun _ => ?_) fun _ => ?_) | (show gE; first | refine gc_tE ?_ | refine gc_fE ?_ | refine gc_E (fun _ => ?_) fun _ => ?_) | (show gN; first | refine gc_tN ?_ | refine gc_fN ?_ | refine gc_N (fun _ => ?_) fun _ => ?_) | refine gc_tB ?_ | refine gc_fB ?_ | refine gc_tS ?_ | refine gc_fS ?_ | refine gc_B (fun _ => ?_) fun _ => ?_) | (show zR; first | (show zs; refine r_seq ?_) | (show zg; refine R_reg rfl ?_) | (show zd; refine y_cnd ?_) | refine r_ret ?_ | refine r_nop ?_ | refine r_blk ?_ | refine r_exit ?_ | fail) | refine k_seq_nrm ?_ | refine k_seq_ret ?_ | refine k_seq_exit ?_ | refine k_blk_nrm ?_ | refine k_blk_ret ?_ | refine k_blk_hit ?_ | refine k_blk_miss (by decide) ?_ | refine k_lp_ret ?_ | refine k_lp_exit ?_ | (show zk; refine y_fin ?_) | (show zj; refine is_ev ?_) | fail)
    · rename_i h3
      have hno : handOK last n x = false := by simp only [handOK, Bool.and_eq_false_iff, decide_eq_false_iff_not]; omega
      rw [hno]; simp only [Bool.false_eq_true, if_false, hcs, k8]
    · rename_i h3
      have hyes : handOK last n x = true := by simp only [handOK, Bool.and_eq_true, decide_eq_true_eq]; omega
      rw [hyes, if_pos rfl, if_pos rfl, ← fin2 _ (by omega)]; rfl
  · have hno : handOK last n x = false := by simp [handOK]; omega
    rw [hno]; simp only [Bool.false_eq_true, if_false, hcs, k8]
    repeat' (first | (show zz; first | (show zo; refine y_op ?_) | (show zf; first | refine y_gF ?_ | refine y_sk ?_) | (show zm; refine y_mv ?_) | (show zr; refine y_reg ?_) | (show zc; refine y_call ?_) | (show zn; refine y_calln ?_) | (show zO; refine y_op0 ?_) | (show ze; refine y_ext ?_) | (show zt; first | refine y_gT ?_ | refine y_sk ?_) | (show zp; refine y_pk ?_) | (show zC; refine y_call0 ?_) | (show zv; refine y_cav ?_) | (show zV; refine y_cav0 ?_) | (show zF; first | refine y_hF ?_ | refine y_sk0 ?_) | (show zT; first | refine y_hT ?_ | refine y_sk0 ?_) | fail) | (show gA; first | (show gD; first | refine gc_tD ?_ | refine gc_fD ?_ | refine gc_D (fun _ => ?_) fun _ => ?_) | (show gE; first | refine gc_tE ?_ | refine gc_fE ?_ | refine gc_E (fun _ => ?_) fun _ => ?_) | (show gN; first | refine gc_tN ?_ | refine gc_fN ?_ | refine gc_N (fun _ => ?_) fun _ => ?_) | refine gc_tB ?_ | refine gc_fB ?_ | refine gc_tS ?_ | refine gc_fS ?_ | refine gc_B (fun _ => ?_) fun _ => ?_) | (show zR; first | (show zs; refine r_seq ?_) | (show zg; refine R_reg rfl ?_) | (show zd; refine y_cnd ?_) | refine r_ret ?_ | refine r_nop ?_ | refine r_blk ?_ | refine r_exit ?_ | fail) | refine k_seq_nrm ?_ | refine k_seq_ret ?_ | refine k_seq_exit ?_ | refine k_blk_nrm ?_ | refine k_blk_ret ?_ | refine k_blk_hit ?_ | refine k_blk_miss (by decide) ?_ | refine k_lp_ret ?_ | refine k_lp_exit ?_ | (show zk; refine y_fin ?_) | (show zj; refine is_ev ?_) | fail)
    all_goals rfl

set_option maxRecDepth 100000 in
set_option maxHeartbeats 1000000 in
theorem refHand {H : Heap} {id l : Nat} {last : List Int} {n : Int} {gs : List Got} {x : Item} (hid : H[id]? = some (rlogV last n gs)) (h6 : last.length = 6) (hn : n ≤ 6) (hb : x.body.length ≤ 140737488351232) (hg : gs.length ≤ 1000000) (hlid : l ≤ id) :
    Call tab (some l) f_ref21_Log_Hand [.ptr id 0, .agg [.int .i64 x.frm, .int .i64 x.to, .int .i64 x.seq, .sl none x.body.length (enL x.body)]] H = some (.bool (handOK last n x), H.set id (rlogV (hLast last n x) n (hGs last n gs x))) := by
  have k6 : (rlogV last n gs)[0]? = some (.int .i64 n) := rfl
  have k7 := rlogV_7 (n := n) (gs := gs) h6
  have k9 := rlogV_rb (m := H.length) (last := last) (n := n) (gs := gs)
  have k8 := set_same hid
  have ki : 0 ≤ x.frm → x.frm < n → (rlogV last n gs)[1 + x.frm.toNat]? = some (.int .i64 (last.getD x.frm.toNat 0)) := fun a b => rlogV_i (by omega)
  have fin2 : ∀ v, x.frm.toNat < 6 → _ := fun v hi => rlogV_step (n := n) (gs := gs) (seq := x.seq) (v := v) (g := handGot last x) h6 hi
  unfold hLast hGs
  generalize hcs : rlogV last n gs = cs at *
  ((first | refine ev_is ?_ | skip); refine cl_T (cf := c_ref21_Log_Hand) rfl rfl rfl (by decide) ?_; unfold c_ref21_Log_Hand; dsimp only [initEnv, Nat.reduceAdd, Nat.zero_add])
  by_cases h1 : 0 ≤ x.frm ∧ x.frm < n
  · have ki' := ki h1.1 h1.2
    repeat' (first | (show zz; first | (show zo; refine y_op ?_) | (show zf; first | refine y_gF ?_ | refine y_sk ?_) | (show zm; refine y_mv ?_) | (show zr; refine y_reg ?_) | (show zc; refine y_call ?_ (ha := by first | exact copy_b (by omega) | assumption)) | (show zn; refine y_calln ?_ (ha := by first | exact copy_b (by omega) | assumption)) | (show zO; refine y_op0 ?_) | (show ze; refine y_ext ?_) | (show zt; first | refine y_gT ?_ | refine y_sk ?_) | (show zp; refine y_pk ?_) | (show zC; refine y_call0 ?_ (ha := by first | exact copy_b (by omega) | assumption)) | (show zv; refine y_cav ?_ (ha := by first | exact copy_b (by omega) | assumption)) | (show zV; refine y_cav0 ?_ (ha := by first | exact copy_b (by omega) | assumption)) | (show zF; first | refine y_hF ?_ | refine y_sk0 ?_) | (show zT; first | refine y_hT ?_ | refine y_sk0 ?_) | fail) | (show gA; first | (show gD; first | refine gc_tD ?_ | refine gc_fD ?_ | refine gc_D (fun _ => ?_) fun _ => ?_) | (show gE; first | refine gc_tE ?_ | refine gc_fE ?_ | refine gc_E (fun _ => ?_) fun _ => ?_) | (show gN; first | refine gc_tN ?_ | refine gc_fN ?_ | refine gc_N (fun _ => ?_) fun _ => ?_) | refine gc_tB ?_ | refine gc_fB ?_ | refine gc_tS ?_ | refine gc_fS ?_ | refine gc_B (fun _ => ?_) fun _ => ?_) | (show zR; first | (show zs; refine r_seq ?_) | (show zg; refine R_reg rfl ?_) | (show zd; refine y_cnd ?_) | refine r_ret ?_ | refine r_nop ?_ | refine r_blk ?_ | refine r_exit ?_ | fail) | refine k_seq_nrm ?_ | refine k_seq_ret ?_ | refine k_seq_exit ?_ | refine k_blk_nrm ?_ | refine k_blk_ret ?_ | refine k_blk_hit ?_ | refine k_blk_miss (by decide) ?_ | refine k_lp_ret ?_ | refine k_lp_exit ?_ | (show zk; refine y_fin ?_) | (show zj; refine is_ev ?_) | fail)
    · rename_i h3
      have hno : handOK last n x = false := by simp only [handOK, Bool.and_eq_false_iff, decide_eq_false_iff_not]; omega
      rw [hno]; simp only [Bool.false_eq_true, if_false, hcs, k8]
    · rename_i h3
      have hyes : handOK last n x = true := by simp only [handOK, Bool.and_eq_true, decide_eq_true_eq]; omega
      rw [hyes, if_pos rfl, if_pos rfl, ← fin2 _ (by omega)]; rfl
  · have hno : handOK last n x = false := by simp [handOK]; omega
    rw [hno]; simp only [Bool.false_eq_true, if_false, hcs, k8]
    repeat' (first | (show zz; first | (show zo; refine y_op ?_) | (show zf; first | refine y_gF ?_ | refine y_sk ?_) | (show zm; refine y_mv ?_) | (show zr; refine y_reg ?_) | (show zc; refine y_call ?_) | (show zn; refine y_calln ?_) | (show zO; refine y_op0 ?_) | (show ze; refine y_ext ?_) | (show zt; first | refine y_gT ?_ | refine y_sk ?_) | (show zp; refine y_pk ?_) | (show zC; refine y_call0 ?_) | (show zv; refine y_cav ?_) | (show zV; refine y_cav0 ?_) | (show zF; first | refine y_hF ?_ | refine y_sk0 ?_) | (show zT; first | refine y_hT ?_ | refine y_sk0 ?_) | fail) | (show gA; first | (show gD; first | refine gc_tD ?_ | refine gc_fD ?_ | refine gc_D (fun _ => ?_) fun _ => ?_) | (show gE; first | refine gc_tE ?_ | refine gc_fE ?_ | refine gc_E (fun _ => ?_) fun _ => ?_) | (show gN; first | refine gc_tN ?_ | refine gc_fN ?_ | refine gc_N (fun _ => ?_) fun _ => ?_) | refine gc_tB ?_ | refine gc_fB ?_ | refine gc_tS ?_ | refine gc_fS ?_ | refine gc_B (fun _ => ?_) fun _ => ?_) | (show zR; first | (show zs; refine r_seq ?_) | (show zg; refine R_reg rfl ?_) | (show zd; refine y_cnd ?_) | refine r_ret ?_ | refine r_nop ?_ | refine r_blk ?_ | refine r_exit ?_ | fail) | refine k_seq_nrm ?_ | refine k_seq_ret ?_ | refine k_seq_exit ?_ | refine k_blk_nrm ?_ | refine k_blk_ret ?_ | refine k_blk_hit ?_ | refine k_blk_miss (by decide) ?_ | refine k_lp_ret ?_ | refine k_lp_exit ?_ | (show zk; refine y_fin ?_) | (show zj; refine is_ev ?_) | fail)
    all_goals rfl
end Go.Abs
