/-
  All that a log holds, and whether two lists are the same.
-/
import Derived.Test.YtcfefgeheibadaaMarkB
namespace Go.Abs
open Go.Proofs.Ytcfefgeheibadaa
attribute [local irreducible] R RR kSeq kBlk kLp kReg kFin apply evs evX edel ekeep eins fillV lay resAll finish trim mayW frz frz1 V.rb V.rbL

theorem getD_rb {l : List Got} {i : Nat} {m : Nat} : V.rbL m ((l.take i).flatMap Got.enc) = true := fm_rb (Got.rb m) _

theorem wrap_succ {i : Nat} (h : i < 9223372036854775807) : IntKind.i64.wrap ((i : Int) + 1) = ((i + 1 : Nat) : Int) := by
  rw [wrap_i64 (by unfold I64; omega)]; omega

set_option maxHeartbeats 1000000 in
theorem all_loop {l : Nat} {H : Heap} {gs : List Got} {Y : Option (V × Heap)} {κ : Out → Option (V × Heap)} (hl : l ≤ H.length) (hb : ∀ x ∈ gs, x.body.length ≤ room) (hg : gs.length * 48 ≤ room) : ∀ (k i : Nat), i + k = gs.length →
    (∀ c, κ (.exit 0, [(3, .sl (some 4) gs.length (gs.flatMap Got.enc)), (11, .sl none gs.length (gs.flatMap Got.enc)), (12, .int .i64 gs.length), (13, .int .i64 gs.length), (14, .bool c)], H) = Y) →
    R tab (some l) (.loop l_mark_Log_All_0) [(3, .sl (some 4) i ((gs.take i).flatMap Got.enc)), (11, .sl none gs.length (gs.flatMap Got.enc)), (12, .int .i64 gs.length), (13, .int .i64 i)] H κ = Y
  | 0, i, hi, h => by
    obtain rfl : i = gs.length := by omega
    rw [List.take_length]
    refine r_loop ?_
    unfold l_mark_Log_All_0
    have h1 : ¬ ((gs.length : Int) < gs.length) := by omega
    repeat' (first | (show RR _ _ ((_, none, _) :: _) _ _ _ = _; first | refine y_mv ?_ | refine y_op ?_ | refine y_pt ?_ | refine y_pf ?_ | refine y_op0 ?_ | refine y_call ?_ | refine y_call0 ?_ | refine y_ext ?_ | fail) | (show RR _ _ ((some _, _, _) :: _) _ _ _ = _; first | refine y_fF ?_ | refine y_nF ?_ | refine y_fT ?_ | refine y_nT ?_ | refine w_ifD rfl (fun _ => ?_) (fun _ => ?_) | refine w_ifE rfl (fun _ => ?_) (fun _ => ?_) | refine w_ifN rfl (fun _ => ?_) (fun _ => ?_) | refine w_if rfl (fun _ => ?_) (fun _ => ?_) | fail) | (show RR _ _ [] _ _ _ = _; refine y_reg ?_) | (show R _ _ _ _ _ _ = _; first | refine r_seq ?_ | refine R_reg rfl ?_ | refine r_ret ?_ | refine r_nop ?_ | refine y_ct ?_ | refine y_cf ?_ | refine y_iD (fun _ => ?_) (fun _ => ?_) | refine y_iE (fun _ => ?_) (fun _ => ?_) | refine y_iN (fun _ => ?_) (fun _ => ?_) | refine y_i (fun _ => ?_) (fun _ => ?_) | refine r_blk ?_ | refine r_exit ?_ | fail) | (show RR _ _ ((none, _, _) :: _) _ _ _ = _; first | refine y_zF ?_ | refine y_nF ?_ | refine y_zT ?_ | refine y_nT ?_ | fail) | refine k_seq_nrm ?_ | refine k_seq_ret ?_ | refine k_seq_exit ?_ | refine k_blk_nrm ?_ | refine k_blk_ret ?_ | refine k_blk_hit ?_ | refine k_blk_miss (by decide) ?_ | refine k_lp_ret ?_ | refine k_lp_exit ?_ | refine y_fin ?_ | fail)
    exact h _
  | k + 1, i, hi, h => by
    refine r_loop ?_
    unfold l_mark_Log_All_0
    have h1 : ((i : Int) < gs.length) := by omega
    have h2 : i < gs.length := by omega
    obtain ⟨x, hx⟩ : ∃ x, gs[i]? = some x := ⟨gs[i], List.getElem?_eq_getElem h2⟩
    have e0 : ((gs.flatMap Got.enc).drop (i * 4)).take 4 = [.int .i64 x.frm, .int .i64 x.seq, .bool x.gap, .sl none x.body.length (bV x.body)] := fm_piece Got.len hx
    have e1 : V.rbL 0 (bV x.body) = true := bV_rb 0 _
    have e2 : (bV x.body).length = x.body.length := bV_len _
    have e3 : x.body.length ≤ room := hb x (List.mem_of_getElem? hx)
    have e4 : ((gs.take i).flatMap Got.enc).length = i * 4 := by rw [fm_len Got.len, List.length_take]; congr 1; omega
    have e5 := wrap_succ (i := i) (by unfold room at hg; omega)
    have e6 : (i + 1) * 48 ≤ room := by omega
    have e7 := bV_rb H.length x.body
    repeat' (first | (show RR _ _ ((_, none, _) :: _) _ _ _ = _; first | refine y_mv ?_ | refine y_op ?_ | refine y_pt ?_ | refine y_pf ?_ | refine y_op0 ?_ | refine y_call ?_ (ha := by first | exact clone_b (by assumption) (by assumption) (by assumption) | assumption) | refine y_call0 ?_ (ha := by first | exact clone_b (by assumption) (by assumption) (by assumption) | assumption) | refine y_ext ?_ | fail) | (show RR _ _ ((some _, _, _) :: _) _ _ _ = _; first | refine y_fF ?_ | refine y_nF ?_ | refine y_fT ?_ | refine y_nT ?_ | refine w_ifD rfl (fun _ => ?_) (fun _ => ?_) | refine w_ifE rfl (fun _ => ?_) (fun _ => ?_) | refine w_ifN rfl (fun _ => ?_) (fun _ => ?_) | refine w_if rfl (fun _ => ?_) (fun _ => ?_) | fail) | (show RR _ _ [] _ _ _ = _; refine y_reg ?_) | (show R _ _ _ _ _ _ = _; first | refine r_seq ?_ | refine R_reg rfl ?_ | refine r_ret ?_ | refine r_nop ?_ | refine y_ct ?_ | refine y_cf ?_ | refine y_iD (fun _ => ?_) (fun _ => ?_) | refine y_iE (fun _ => ?_) (fun _ => ?_) | refine y_iN (fun _ => ?_) (fun _ => ?_) | refine y_i (fun _ => ?_) (fun _ => ?_) | refine r_blk ?_ | refine r_exit ?_ | fail) | (show RR _ _ ((none, _, _) :: _) _ _ _ = _; first | refine y_zF ?_ | refine y_nF ?_ | refine y_zT ?_ | refine y_nT ?_ | fail) | refine k_seq_nrm ?_ | refine k_seq_ret ?_ | refine k_seq_exit ?_ | refine k_blk_nrm ?_ | refine k_blk_ret ?_ | refine k_blk_hit ?_ | refine k_blk_miss (by decide) ?_ | refine k_lp_ret ?_ | refine k_lp_exit ?_ | refine y_fin ?_ | fail)
    have e8 : (gs.take i).flatMap Got.enc ++ [.int .i64 x.frm, .int .i64 x.seq, .bool x.gap, .sl none x.body.length (bV x.body)] = (gs.take (i + 1)).flatMap Got.enc := take_step hx
    have e9 : V.rbL H.length ((gs.take i).flatMap Got.enc) = true := getD_rb
    have e10 : V.rbL H.length (gs.flatMap Got.enc) = true := fm_rb (Got.rb _) _
    refine y_lp ?_
    rw [e8]
    exact all_loop hl hb hg k (i + 1) (by omega) h
theorem markAll {s : Option Nat} {H : Heap} {id : Nat} {last : List Int} {n : Int} {gs : List Got} (hid : H[id]? = some (logV last n gs)) (h6 : last.length = 6) (hb : ∀ x ∈ gs, x.body.length ≤ room) (hg : gs.length * 48 ≤ room) :
    Call tab s f_mark_Log_All [.ptr id 0] H = some (.sl (some 4) gs.length (gs.flatMap Got.enc), H) := by
  have k7 := logV_7 (n := n) (gs := gs) h6
  generalize logV last n gs = cs at *
  refine Call_Q (cf := c_mark_Log_All) rfl rfl rfl rfl rb_ptr0 ?_
  unfold c_mark_Log_All
  dsimp only [initEnv, Nat.reduceAdd, Nat.zero_add]
  repeat' (first | (show RR _ _ ((_, none, _) :: _) _ _ _ = _; first | refine y_mv ?_ | refine y_op ?_ | refine y_pt ?_ | refine y_pf ?_ | refine y_op0 ?_ | refine y_call ?_ | refine y_call0 ?_ | refine y_ext ?_ | fail) | (show RR _ _ ((some _, _, _) :: _) _ _ _ = _; first | refine y_fF ?_ | refine y_nF ?_ | refine y_fT ?_ | refine y_nT ?_ | refine w_ifD rfl (fun _ => ?_) (fun _ => ?_) | refine w_ifE rfl (fun _ => ?_) (fun _ => ?_) | refine w_ifN rfl (fun _ => ?_) (fun _ => ?_) | refine w_if rfl (fun _ => ?_) (fun _ => ?_) | fail) | (show RR _ _ [] _ _ _ = _; refine y_reg ?_) | (show R _ _ _ _ _ _ = _; first | refine r_seq ?_ | refine R_reg rfl ?_ | refine r_ret ?_ | refine r_nop ?_ | refine y_ct ?_ | refine y_cf ?_ | refine y_iD (fun _ => ?_) (fun _ => ?_) | refine y_iE (fun _ => ?_) (fun _ => ?_) | refine y_iN (fun _ => ?_) (fun _ => ?_) | refine y_i (fun _ => ?_) (fun _ => ?_) | refine r_blk ?_ | refine r_exit ?_ | fail) | (show RR _ _ ((none, _, _) :: _) _ _ _ = _; first | refine y_zF ?_ | refine y_nF ?_ | refine y_zT ?_ | refine y_nT ?_ | fail) | refine k_seq_nrm ?_ | refine k_seq_ret ?_ | refine k_seq_exit ?_ | refine k_blk_nrm ?_ | refine k_blk_ret ?_ | refine k_blk_hit ?_ | refine k_blk_miss (by decide) ?_ | refine k_lp_ret ?_ | refine k_lp_exit ?_ | refine y_fin ?_ | fail)
  refine all_loop (gs := gs) (Nat.le_refl _) hb hg gs.length 0 (by omega) fun c => ?_
  have e1 : V.rbL H.length (gs.flatMap Got.enc) = true := fm_rb (Got.rb _) _
  repeat' (first | (show RR _ _ ((_, none, _) :: _) _ _ _ = _; first | refine y_mv ?_ | refine y_op ?_ | refine y_pt ?_ | refine y_pf ?_ | refine y_op0 ?_ | refine y_call ?_ | refine y_call0 ?_ | refine y_ext ?_ | fail) | (show RR _ _ ((some _, _, _) :: _) _ _ _ = _; first | refine y_fF ?_ | refine y_nF ?_ | refine y_fT ?_ | refine y_nT ?_ | refine w_ifD rfl (fun _ => ?_) (fun _ => ?_) | refine w_ifE rfl (fun _ => ?_) (fun _ => ?_) | refine w_ifN rfl (fun _ => ?_) (fun _ => ?_) | refine w_if rfl (fun _ => ?_) (fun _ => ?_) | fail) | (show RR _ _ [] _ _ _ = _; refine y_reg ?_) | (show R _ _ _ _ _ _ = _; first | refine r_seq ?_ | refine R_reg rfl ?_ | refine r_ret ?_ | refine r_nop ?_ | refine y_ct ?_ | refine y_cf ?_ | refine y_iD (fun _ => ?_) (fun _ => ?_) | refine y_iE (fun _ => ?_) (fun _ => ?_) | refine y_iN (fun _ => ?_) (fun _ => ?_) | refine y_i (fun _ => ?_) (fun _ => ?_) | refine r_blk ?_ | refine r_exit ?_ | fail) | (show RR _ _ ((none, _, _) :: _) _ _ _ = _; first | refine y_zF ?_ | refine y_nF ?_ | refine y_zT ?_ | refine y_nT ?_ | fail) | refine k_seq_nrm ?_ | refine k_seq_ret ?_ | refine k_seq_exit ?_ | refine k_blk_nrm ?_ | refine k_blk_ret ?_ | refine k_blk_hit ?_ | refine k_blk_miss (by decide) ?_ | refine k_lp_ret ?_ | refine k_lp_exit ?_ | refine y_fin ?_ | fail)
  rfl
end Go.Abs
