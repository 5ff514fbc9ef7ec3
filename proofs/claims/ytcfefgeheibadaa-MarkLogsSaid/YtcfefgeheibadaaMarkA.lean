/-
  What the functions of the package mark, and of the document's own answer for it, come to.
-/
import Derived.Test.YtcfefgeheibadaaCode
import Derived.Test.YtcfefgeheibadaaEncA
namespace Go.Abs
open Go.Proofs.Ytcfefgeheibadaa
attribute [local irreducible] R RR kSeq kBlk kLp kReg kFin apply evs evX edel ekeep eins fillV lay resAll finish trim mayW frz frz1 V.rb V.rbL

def logV (last : List Int) (n : Int) (gs : List Got) : List V := last.map (.int .i64) ++ [.int .i64 n, .sl (some 4) gs.length (gs.flatMap Got.enc)]
def rlogV (last : List Int) (n : Int) (gs : List Got) : List V := .int .i64 n :: (last.map (.int .i64) ++ [.sl (some 4) gs.length (gs.flatMap Got.enc)])
def handOK (last : List Int) (n : Int) (x : Item) : Bool := decide (0 ≤ x.frm) && decide (x.frm < n) && decide (last.getD x.frm.toNat 0 < x.seq)
def handGot (last : List Int) (x : Item) : Got := ⟨x.frm, x.seq, IntKind.i64.wrap (x.seq - 1) != last.getD x.frm.toNat 0, x.body⟩

theorem logV_6 {last n gs} (h : last.length = 6) : (logV last n gs)[6]? = some (.int .i64 n) := by
  unfold logV; rw [List.getElem?_append_right (by simp [h])]; simp [h]
theorem logV_7 {last n gs} (h : last.length = 6) : (logV last n gs)[7]? = some (.sl (some 4) gs.length (gs.flatMap Got.enc)) := by
  unfold logV; rw [List.getElem?_append_right (by simp [h])]; simp [h]
theorem logV_i {last n gs} {i : Nat} (h : i < last.length) : (logV last n gs)[i]? = some (.int .i64 (last.getD i 0)) := by
  unfold logV; rw [List.getElem?_append_left (by simpa using h)]; simp [h, List.getD_eq_getElem?_getD]
theorem logV_s7 {last n gs} (h : last.length = 6) (v : V) : (logV last n gs).set 7 v = last.map (.int .i64) ++ [.int .i64 n, v] := by
  unfold logV; rw [List.set_append_right _ _ (by simp [h])]; simp [h]

theorem logV_step {last n gs} {i : Nat} {seq : Int} {v : V} {g : Got} (h : last.length = 6) (hi : i < 6) :
    (((logV last n gs).set 7 v).set 7 (.sl (some 4) (gs.length + 1) (gs.flatMap Got.enc ++ g.enc))).set i (.int .i64 seq) = logV (last.set i seq) n (gs ++ [g]) := by
  rw [List.set_set, logV_s7 h, List.set_append_left _ _ (by simpa [h] using hi)]
  simp [logV, List.map_set]

theorem clone_b {s : Option Nat} {own : Option Nat} {k : Nat} {bs : List V} {H : Heap} (h1 : V.rbL 0 bs = true) (h2 : bs.length = k) (h3 : k ≤ room) : Call tab s f_slices_Clone_byte_byte [.sl own k bs] H = some (.sl (some 1) k bs, H) := by
  rw [Call_prim (p := primClone 1 1) rfl]
  simp [primClone, h1, h2, h3, V.noVia]

set_option maxRecDepth 100000 in
set_option maxHeartbeats 1000000 in
theorem markHand (H : Heap) (id l : Nat) (last : List Int) (n : Int) (gs : List Got) (x : Item) (hid : H[id]? = some (logV last n gs)) (h6 : last.length = 6) (hn : n ≤ 6) (hb : x.body.length ≤ room) (hg : (gs.length + 1) * 48 ≤ room) (hlid : l ≤ id) :
    Call tab (some l) f_mark_Log_Hand [.ptr id 0, .agg x.enc] H = some (.bool (handOK last n x), if handOK last n x then H.set id (logV (last.set x.frm.toNat x.seq) n (gs ++ [handGot last x])) else H) := by
  obtain ⟨frm, to, seq, body⟩ := x
  have k6 := logV_6 (n := n) (gs := gs) h6
  have k7 := logV_7 (n := n) (gs := gs) h6
  have ks := logV_s7 (n := n) (gs := gs) h6
  have e1 : V.rbL 0 (bV body) = true := bV_rb 0 body
  have e2 : (bV body).length = body.length := bV_len body
  have e3 : (gs.flatMap Got.enc).length = gs.length * 4 := fm_len Got.len gs
  have e4 : ∀ m, V.rbL m (gs.flatMap Got.enc) = true := fun m => fm_rb (Got.rb m) gs
  have e5 := e4 id
  have e6 := bV_rb id body
  have ki : 0 ≤ frm → frm < n → (logV last n gs)[frm.toNat]? = some (.int .i64 (last.getD frm.toNat 0)) := fun a b => logV_i (by omega)
  have fin : ∀ v, (((logV last n gs).set 7 v).set frm.toNat (.int .i64 seq)) = (last.map (V.int .i64) ++ [V.int .i64 n, v]).set frm.toNat (V.int .i64 seq) := fun v => by rw [ks]
  have fin2 : ∀ v, frm.toNat < 6 → _ := fun v hi => logV_step (n := n) (gs := gs) (seq := seq) (v := v) (g := handGot last ⟨frm, to, seq, body⟩) h6 hi
  simp only at hb
  generalize hcs : logV last n gs = cs at *
  refine Call_T (cf := c_mark_Log_Hand) rfl rfl rfl (by decide) ?_
  unfold c_mark_Log_Hand
  unfold Item.enc
  dsimp only [initEnv, Nat.reduceAdd, Nat.zero_add]
  by_cases h1 : frm < 0
  · have hno : handOK last n ⟨frm, to, seq, body⟩ = false := by simp [handOK]; omega
    rw [hno]
    repeat' (first | (show RR _ _ ((_, none, _) :: _) _ _ _ = _; first | refine y_mv ?_ | refine y_op ?_ | refine y_pt ?_ | refine y_pf ?_ | refine y_op0 ?_ | refine y_call ?_ | refine y_call0 ?_ | refine y_ext ?_ | fail) | (show RR _ _ ((some _, _, _) :: _) _ _ _ = _; first | refine y_fF ?_ | refine y_nF ?_ | refine y_fT ?_ | refine y_nT ?_ | refine w_ifD rfl (fun _ => ?_) (fun _ => ?_) | refine w_ifE rfl (fun _ => ?_) (fun _ => ?_) | refine w_ifN rfl (fun _ => ?_) (fun _ => ?_) | refine w_if rfl (fun _ => ?_) (fun _ => ?_) | fail) | (show RR _ _ [] _ _ _ = _; refine y_reg ?_) | (show R _ _ _ _ _ _ = _; first | refine r_seq ?_ | refine R_reg rfl ?_ | refine r_ret ?_ | refine r_nop ?_ | refine y_ct ?_ | refine y_cf ?_ | refine y_iD (fun _ => ?_) (fun _ => ?_) | refine y_iE (fun _ => ?_) (fun _ => ?_) | refine y_iN (fun _ => ?_) (fun _ => ?_) | refine y_i (fun _ => ?_) (fun _ => ?_) | refine r_blk ?_ | refine r_exit ?_ | fail) | (show RR _ _ ((none, _, _) :: _) _ _ _ = _; first | refine y_zF ?_ | refine y_nF ?_ | refine y_zT ?_ | refine y_nT ?_ | fail) | refine k_seq_nrm ?_ | refine k_seq_ret ?_ | refine k_seq_exit ?_ | refine k_blk_nrm ?_ | refine k_blk_ret ?_ | refine k_blk_hit ?_ | refine k_blk_miss (by decide) ?_ | refine k_lp_ret ?_ | refine k_lp_exit ?_ | refine y_fin ?_ | fail)
    all_goals rfl
  · by_cases h2 : n ≤ frm
    · have hno : handOK last n ⟨frm, to, seq, body⟩ = false := by simp [handOK]; omega
      rw [hno]
      repeat' (first | (show RR _ _ ((_, none, _) :: _) _ _ _ = _; first | refine y_mv ?_ | refine y_op ?_ | refine y_pt ?_ | refine y_pf ?_ | refine y_op0 ?_ | refine y_call ?_ | refine y_call0 ?_ | refine y_ext ?_ | fail) | (show RR _ _ ((some _, _, _) :: _) _ _ _ = _; first | refine y_fF ?_ | refine y_nF ?_ | refine y_fT ?_ | refine y_nT ?_ | refine w_ifD rfl (fun _ => ?_) (fun _ => ?_) | refine w_ifE rfl (fun _ => ?_) (fun _ => ?_) | refine w_ifN rfl (fun _ => ?_) (fun _ => ?_) | refine w_if rfl (fun _ => ?_) (fun _ => ?_) | fail) | (show RR _ _ [] _ _ _ = _; refine y_reg ?_) | (show R _ _ _ _ _ _ = _; first | refine r_seq ?_ | refine R_reg rfl ?_ | refine r_ret ?_ | refine r_nop ?_ | refine y_ct ?_ | refine y_cf ?_ | refine y_iD (fun _ => ?_) (fun _ => ?_) | refine y_iE (fun _ => ?_) (fun _ => ?_) | refine y_iN (fun _ => ?_) (fun _ => ?_) | refine y_i (fun _ => ?_) (fun _ => ?_) | refine r_blk ?_ | refine r_exit ?_ | fail) | (show RR _ _ ((none, _, _) :: _) _ _ _ = _; first | refine y_zF ?_ | refine y_nF ?_ | refine y_zT ?_ | refine y_nT ?_ | fail) | refine k_seq_nrm ?_ | refine k_seq_ret ?_ | refine k_seq_exit ?_ | refine k_blk_nrm ?_ | refine k_blk_ret ?_ | refine k_blk_hit ?_ | refine k_blk_miss (by decide) ?_ | refine k_lp_ret ?_ | refine k_lp_exit ?_ | refine y_fin ?_ | fail)
      all_goals rfl
    · have ki' := ki (by omega) (by omega)
      repeat' (first | (show RR _ _ ((_, none, _) :: _) _ _ _ = _; first | refine y_mv ?_ | refine y_op ?_ | refine y_pt ?_ | refine y_pf ?_ | refine y_op0 ?_ | refine y_call ?_ (ha := by first | exact clone_b (by assumption) (by assumption) (by assumption) | assumption) | refine y_call0 ?_ (ha := by first | exact clone_b (by assumption) (by assumption) (by assumption) | assumption) | refine y_ext ?_ | fail) | (show RR _ _ ((some _, _, _) :: _) _ _ _ = _; first | refine y_fF ?_ | refine y_nF ?_ | refine y_fT ?_ | refine y_nT ?_ | refine w_ifD rfl (fun _ => ?_) (fun _ => ?_) | refine w_ifE rfl (fun _ => ?_) (fun _ => ?_) | refine w_ifN rfl (fun _ => ?_) (fun _ => ?_) | refine w_if rfl (fun _ => ?_) (fun _ => ?_) | fail) | (show RR _ _ [] _ _ _ = _; refine y_reg ?_) | (show R _ _ _ _ _ _ = _; first | refine r_seq ?_ | refine R_reg rfl ?_ | refine r_ret ?_ | refine r_nop ?_ | refine y_ct ?_ | refine y_cf ?_ | refine y_iD (fun _ => ?_) (fun _ => ?_) | refine y_iE (fun _ => ?_) (fun _ => ?_) | refine y_iN (fun _ => ?_) (fun _ => ?_) | refine y_i (fun _ => ?_) (fun _ => ?_) | refine r_blk ?_ | refine r_exit ?_ | fail) | (show RR _ _ ((none, _, _) :: _) _ _ _ = _; first | refine y_zF ?_ | refine y_nF ?_ | refine y_zT ?_ | refine y_nT ?_ | fail) | refine k_seq_nrm ?_ | refine k_seq_ret ?_ | refine k_seq_exit ?_ | refine k_blk_nrm ?_ | refine k_blk_ret ?_ | refine k_blk_hit ?_ | refine k_blk_miss (by decide) ?_ | refine k_lp_ret ?_ | refine k_lp_exit ?_ | refine y_fin ?_ | fail)
      · rename_i h3
        have hno : handOK last n ⟨frm, to, seq, body⟩ = false := by simp only [handOK, Bool.and_eq_false_iff, decide_eq_false_iff_not]; omega
        rw [hno]; rfl
      · rename_i h3
        have hyes : handOK last n ⟨frm, to, seq, body⟩ = true := by simp only [handOK, Bool.and_eq_true, decide_eq_true_eq]; omega
        rw [hyes, if_pos rfl, ← fin2 _ (by omega)]; rfl

theorem rlogV_0 {last n gs} : (rlogV last n gs)[0]? = some (.int .i64 n) := rfl
theorem rlogV_7 {last n gs} (h : last.length = 6) : (rlogV last n gs)[7]? = some (.sl (some 4) gs.length (gs.flatMap Got.enc)) := by
  unfold rlogV; rw [List.getElem?_cons_succ, List.getElem?_append_right (by simp [h])]; simp [h]
theorem rlogV_i {last n gs} {i : Nat} (h : i < last.length) : (rlogV last n gs)[1 + i]? = some (.int .i64 (last.getD i 0)) := by
  unfold rlogV; rw [Nat.add_comm, List.getElem?_cons_succ, List.getElem?_append_left (by simpa using h)]; simp [h, List.getD_eq_getElem?_getD]
theorem rlogV_step {last n gs} {i : Nat} {seq : Int} {v : V} {g : Got} (h : last.length = 6) (hi : i < 6) :
    (((rlogV last n gs).set 7 v).set 7 (.sl (some 4) (gs.length + 1) (gs.flatMap Got.enc ++ g.enc))).set (1 + i) (.int .i64 seq) = rlogV (last.set i seq) n (gs ++ [g]) := by
  rw [List.set_set]
  unfold rlogV
  rw [List.set_cons_succ, List.set_append_right _ _ (by simp [h]), Nat.add_comm 1 i, List.set_cons_succ, List.set_append_left _ _ (by simpa [h] using hi)]
  simp [h, List.map_set]

theorem copy_b {s : Option Nat} {k : Nat} {b : List UInt8} {H : Heap} (h2 : (bV b).length = k) (h3 : k ≤ room) : Call tab s f_ref1_Copy [.sl none k (bV b)] H = some (.sl (some 1) k (bV b), H) := by
  have e1 := bV_rb 0 b
  have h4 : 0 + k ≤ room := by omega
  have h5 : (bV b).length = k * 1 := by omega
  have h6 : (0 + k) * 1 ≤ room := by omega
  refine Call_P (H0 := []) (cf := c_ref1_Copy) rfl rfl rfl rfl (by (repeat' (first | assumption | exact rb_int | exact rb_bool | exact rb_str | exact rb_nil | refine rb_sl ?_ | refine rb_cons ?_ ?_ | refine rb_agg ?_ | refine rb_app ?_ ?_ | refine rb_ptr ?_ | (simp only [V.rb]; done))); (first | done | fail)) ?_
  unfold c_ref1_Copy
  dsimp only [initEnv, Nat.reduceAdd, Nat.zero_add]
  repeat' (first | (show RR _ _ ((_, none, _) :: _) _ _ _ = _; first | refine y_mv ?_ | refine y_op ?_ | refine y_pt ?_ | refine y_pf ?_ | refine y_op0 ?_ | refine y_call ?_ | refine y_call0 ?_ | refine y_ext ?_ | fail) | (show RR _ _ ((some _, _, _) :: _) _ _ _ = _; first | refine y_fF ?_ | refine y_nF ?_ | refine y_fT ?_ | refine y_nT ?_ | refine w_ifD rfl (fun _ => ?_) (fun _ => ?_) | refine w_ifE rfl (fun _ => ?_) (fun _ => ?_) | refine w_ifN rfl (fun _ => ?_) (fun _ => ?_) | refine w_if rfl (fun _ => ?_) (fun _ => ?_) | fail) | (show RR _ _ [] _ _ _ = _; refine y_reg ?_) | (show R _ _ _ _ _ _ = _; first | refine r_seq ?_ | refine R_reg rfl ?_ | refine r_ret ?_ | refine r_nop ?_ | refine y_ct ?_ | refine y_cf ?_ | refine y_iD (fun _ => ?_) (fun _ => ?_) | refine y_iE (fun _ => ?_) (fun _ => ?_) | refine y_iN (fun _ => ?_) (fun _ => ?_) | refine y_i (fun _ => ?_) (fun _ => ?_) | refine r_blk ?_ | refine r_exit ?_ | fail) | (show RR _ _ ((none, _, _) :: _) _ _ _ = _; first | refine y_zF ?_ | refine y_nF ?_ | refine y_zT ?_ | refine y_nT ?_ | fail) | refine k_seq_nrm ?_ | refine k_seq_ret ?_ | refine k_seq_exit ?_ | refine k_blk_nrm ?_ | refine k_blk_ret ?_ | refine k_blk_hit ?_ | refine k_blk_miss (by decide) ?_ | refine k_lp_ret ?_ | refine k_lp_exit ?_ | refine y_fin ?_ | fail)
  rw [Nat.zero_add]; rfl

set_option maxRecDepth 100000 in
set_option maxHeartbeats 1000000 in
theorem refHand (H : Heap) (id l : Nat) (last : List Int) (n : Int) (gs : List Got) (x : Item) (hid : H[id]? = some (rlogV last n gs)) (h6 : last.length = 6) (hn : n ≤ 6) (hb : x.body.length ≤ room) (hg : (gs.length + 1) * 48 ≤ room) (hlid : l ≤ id) :
    Call tab (some l) f_ref21_Log_Hand [.ptr id 0, .agg x.enc] H = some (.bool (handOK last n x), if handOK last n x then H.set id (rlogV (last.set x.frm.toNat x.seq) n (gs ++ [handGot last x])) else H) := by
  obtain ⟨frm, to, seq, body⟩ := x
  have k6 := rlogV_0 (last := last) (n := n) (gs := gs)
  have k7 := rlogV_7 (n := n) (gs := gs) h6
  have e1 : V.rbL 0 (bV body) = true := bV_rb 0 body
  have e2 : (bV body).length = body.length := bV_len body
  have e3 : (gs.flatMap Got.enc).length = gs.length * 4 := fm_len Got.len gs
  have e4 : ∀ m, V.rbL m (gs.flatMap Got.enc) = true := fun m => fm_rb (Got.rb m) gs
  have e5 := e4 id
  have e6 := bV_rb id body
  have ki : 0 ≤ frm → frm < n → (rlogV last n gs)[1 + frm.toNat]? = some (.int .i64 (last.getD frm.toNat 0)) := fun a b => rlogV_i (by omega)
  have fin2 : ∀ v, frm.toNat < 6 → _ := fun v hi => rlogV_step (n := n) (gs := gs) (seq := seq) (v := v) (g := handGot last ⟨frm, to, seq, body⟩) h6 hi
  simp only at hb
  generalize hcs : rlogV last n gs = cs at *
  refine Call_T (cf := c_ref21_Log_Hand) rfl rfl rfl (by decide) ?_
  unfold c_ref21_Log_Hand
  unfold Item.enc
  dsimp only [initEnv, Nat.reduceAdd, Nat.zero_add]
  by_cases h1 : frm < 0
  · have hno : handOK last n ⟨frm, to, seq, body⟩ = false := by simp [handOK]; omega
    rw [hno]
    repeat' (first | (show RR _ _ ((_, none, _) :: _) _ _ _ = _; first | refine y_mv ?_ | refine y_op ?_ | refine y_pt ?_ | refine y_pf ?_ | refine y_op0 ?_ | refine y_call ?_ | refine y_call0 ?_ | refine y_ext ?_ | fail) | (show RR _ _ ((some _, _, _) :: _) _ _ _ = _; first | refine y_fF ?_ | refine y_nF ?_ | refine y_fT ?_ | refine y_nT ?_ | refine w_ifD rfl (fun _ => ?_) (fun _ => ?_) | refine w_ifE rfl (fun _ => ?_) (fun _ => ?_) | refine w_ifN rfl (fun _ => ?_) (fun _ => ?_) | refine w_if rfl (fun _ => ?_) (fun _ => ?_) | fail) | (show RR _ _ [] _ _ _ = _; refine y_reg ?_) | (show R _ _ _ _ _ _ = _; first | refine r_seq ?_ | refine R_reg rfl ?_ | refine r_ret ?_ | refine r_nop ?_ | refine y_ct ?_ | refine y_cf ?_ | refine y_iD (fun _ => ?_) (fun _ => ?_) | refine y_iE (fun _ => ?_) (fun _ => ?_) | refine y_iN (fun _ => ?_) (fun _ => ?_) | refine y_i (fun _ => ?_) (fun _ => ?_) | refine r_blk ?_ | refine r_exit ?_ | fail) | (show RR _ _ ((none, _, _) :: _) _ _ _ = _; first | refine y_zF ?_ | refine y_nF ?_ | refine y_zT ?_ | refine y_nT ?_ | fail) | refine k_seq_nrm ?_ | refine k_seq_ret ?_ | refine k_seq_exit ?_ | refine k_blk_nrm ?_ | refine k_blk_ret ?_ | refine k_blk_hit ?_ | refine k_blk_miss (by decide) ?_ | refine k_lp_ret ?_ | refine k_lp_exit ?_ | refine y_fin ?_ | fail)
    all_goals rfl
  · by_cases h2 : n ≤ frm
    · have hno : handOK last n ⟨frm, to, seq, body⟩ = false := by simp [handOK]; omega
      rw [hno]
      repeat' (first | (show RR _ _ ((_, none, _) :: _) _ _ _ = _; first | refine y_mv ?_ | refine y_op ?_ | refine y_pt ?_ | refine y_pf ?_ | refine y_op0 ?_ | refine y_call ?_ | refine y_call0 ?_ | refine y_ext ?_ | fail) | (show RR _ _ ((some _, _, _) :: _) _ _ _ = _; first | refine y_fF ?_ | refine y_nF ?_ | refine y_fT ?_ | refine y_nT ?_ | refine w_ifD rfl (fun _ => ?_) (fun _ => ?_) | refine w_ifE rfl (fun _ => ?_) (fun _ => ?_) | refine w_ifN rfl (fun _ => ?_) (fun _ => ?_) | refine w_if rfl (fun _ => ?_) (fun _ => ?_) | fail) | (show RR _ _ [] _ _ _ = _; refine y_reg ?_) | (show R _ _ _ _ _ _ = _; first | refine r_seq ?_ | refine R_reg rfl ?_ | refine r_ret ?_ | refine r_nop ?_ | refine y_ct ?_ | refine y_cf ?_ | refine y_iD (fun _ => ?_) (fun _ => ?_) | refine y_iE (fun _ => ?_) (fun _ => ?_) | refine y_iN (fun _ => ?_) (fun _ => ?_) | refine y_i (fun _ => ?_) (fun _ => ?_) | refine r_blk ?_ | refine r_exit ?_ | fail) | (show RR _ _ ((none, _, _) :: _) _ _ _ = _; first | refine y_zF ?_ | refine y_nF ?_ | refine y_zT ?_ | refine y_nT ?_ | fail) | refine k_seq_nrm ?_ | refine k_seq_ret ?_ | refine k_seq_exit ?_ | refine k_blk_nrm ?_ | refine k_blk_ret ?_ | refine k_blk_hit ?_ | refine k_blk_miss (by decide) ?_ | refine k_lp_ret ?_ | refine k_lp_exit ?_ | refine y_fin ?_ | fail)
      all_goals rfl
    · have ki' := ki (by omega) (by omega)
      repeat' (first | (show RR _ _ ((_, none, _) :: _) _ _ _ = _; first | refine y_mv ?_ | refine y_op ?_ | refine y_pt ?_ | refine y_pf ?_ | refine y_op0 ?_ | refine y_call ?_ (ha := by first | exact copy_b (by assumption) (by assumption) | assumption) | refine y_call0 ?_ (ha := by first | exact copy_b (by assumption) (by assumption) | assumption) | refine y_ext ?_ | fail) | (show RR _ _ ((some _, _, _) :: _) _ _ _ = _; first | refine y_fF ?_ | refine y_nF ?_ | refine y_fT ?_ | refine y_nT ?_ | refine w_ifD rfl (fun _ => ?_) (fun _ => ?_) | refine w_ifE rfl (fun _ => ?_) (fun _ => ?_) | refine w_ifN rfl (fun _ => ?_) (fun _ => ?_) | refine w_if rfl (fun _ => ?_) (fun _ => ?_) | fail) | (show RR _ _ [] _ _ _ = _; refine y_reg ?_) | (show R _ _ _ _ _ _ = _; first | refine r_seq ?_ | refine R_reg rfl ?_ | refine r_ret ?_ | refine r_nop ?_ | refine y_ct ?_ | refine y_cf ?_ | refine y_iD (fun _ => ?_) (fun _ => ?_) | refine y_iE (fun _ => ?_) (fun _ => ?_) | refine y_iN (fun _ => ?_) (fun _ => ?_) | refine y_i (fun _ => ?_) (fun _ => ?_) | refine r_blk ?_ | refine r_exit ?_ | fail) | (show RR _ _ ((none, _, _) :: _) _ _ _ = _; first | refine y_zF ?_ | refine y_nF ?_ | refine y_zT ?_ | refine y_nT ?_ | fail) | refine k_seq_nrm ?_ | refine k_seq_ret ?_ | refine k_seq_exit ?_ | refine k_blk_nrm ?_ | refine k_blk_ret ?_ | refine k_blk_hit ?_ | refine k_blk_miss (by decide) ?_ | refine k_lp_ret ?_ | refine k_lp_exit ?_ | refine y_fin ?_ | fail)
      · rename_i h3
        have hno : handOK last n ⟨frm, to, seq, body⟩ = false := by simp only [handOK, Bool.and_eq_false_iff, decide_eq_false_iff_not]; omega
        rw [hno]; rfl
      · rename_i h3
        have hyes : handOK last n ⟨frm, to, seq, body⟩ = true := by simp only [handOK, Bool.and_eq_true, decide_eq_true_eq]; omega
        rw [hyes, if_pos rfl, ← fin2 _ (by omega)]; rfl
end Go.Abs
