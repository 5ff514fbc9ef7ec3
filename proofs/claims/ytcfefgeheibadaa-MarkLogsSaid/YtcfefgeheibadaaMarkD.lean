/-
  Whether two lists of what came are the same: they are, if they are.
-/
import Derived.Test.YtcfefgeheibadaaMarkC
namespace Go.Abs
open Go.Proofs.Ytcfefgeheibadaa
attribute [local irreducible] R RR kSeq kBlk kLp kReg kFin apply evs evX edel ekeep eins fillV lay resAll finish trim mayW frz frz1 V.rb V.rbL

theorem bytesOf_bV : ∀ b : List UInt8, bytesOf (bV b) = some b
  | [] => rfl
  | c :: b => by
    have ih := bytesOf_bV b
    have : (c.toNat : Int) < 256 := by have := c.toNat_lt; omega
    simp only [bV, List.map_cons] at ih ⊢
    simp [bytesOf, ih]

set_option maxHeartbeats 1000000 in
theorem same_loop {s : Option Nat} {H : Heap} {gs : List Got} {o1 o2 : Option Nat} {Y : Option (V × Heap)} {κ : Out → Option (V × Heap)} (hg : gs.length ≤ room) : ∀ (k i : Nat), i + k = gs.length →
    (∀ c, κ (.exit 0, [(0, .sl o1 gs.length (gs.flatMap Got.enc)), (1, .sl o2 gs.length (gs.flatMap Got.enc)), (5, .int .i64 gs.length), (14, .bool c)], H) = Y) →
    R tab s (.loop l_ref21_SameGots_0) [(0, .sl o1 gs.length (gs.flatMap Got.enc)), (1, .sl o2 gs.length (gs.flatMap Got.enc)), (5, .int .i64 i)] H κ = Y
  | 0, i, hi, h => by
    obtain rfl : i = gs.length := by omega
    refine r_loop ?_
    unfold l_ref21_SameGots_0
    have h1 : ¬ ((gs.length : Int) < gs.length) := by omega
    repeat' (first | (show RR _ _ ((_, none, _) :: _) _ _ _ = _; first | refine y_mv ?_ | refine y_op ?_ | refine y_pt ?_ | refine y_pf ?_ | refine y_op0 ?_ | refine y_call ?_ | refine y_call0 ?_ | refine y_ext ?_ | fail) | (show RR _ _ ((some _, _, _) :: _) _ _ _ = _; first | refine y_fF ?_ | refine y_nF ?_ | refine y_fT ?_ | refine y_nT ?_ | refine w_ifD rfl (fun _ => ?_) (fun _ => ?_) | refine w_ifE rfl (fun _ => ?_) (fun _ => ?_) | refine w_ifN rfl (fun _ => ?_) (fun _ => ?_) | refine w_if rfl (fun _ => ?_) (fun _ => ?_) | fail) | (show RR _ _ [] _ _ _ = _; refine y_reg ?_) | (show R _ _ _ _ _ _ = _; first | refine r_seq ?_ | refine R_reg rfl ?_ | refine r_ret ?_ | refine r_nop ?_ | refine y_ct ?_ | refine y_cf ?_ | refine y_iD (fun _ => ?_) (fun _ => ?_) | refine y_iE (fun _ => ?_) (fun _ => ?_) | refine y_iN (fun _ => ?_) (fun _ => ?_) | refine y_i (fun _ => ?_) (fun _ => ?_) | refine r_blk ?_ | refine r_exit ?_ | fail) | (show RR _ _ ((none, _, _) :: _) _ _ _ = _; first | refine y_zF ?_ | refine y_nF ?_ | refine y_zT ?_ | refine y_nT ?_ | fail) | refine k_seq_nrm ?_ | refine k_seq_ret ?_ | refine k_seq_exit ?_ | refine k_blk_nrm ?_ | refine k_blk_ret ?_ | refine k_blk_hit ?_ | refine k_blk_miss (by decide) ?_ | refine k_lp_ret ?_ | refine k_lp_exit ?_ | refine y_fin ?_ | fail)
    exact h _
  | k + 1, i, hi, h => by
    refine r_loop ?_
    unfold l_ref21_SameGots_0
    have h1 : ((i : Int) < gs.length) := by omega
    have h2 : i < gs.length := by omega
    obtain ⟨x, hx⟩ : ∃ x, gs[i]? = some x := ⟨gs[i], List.getElem?_eq_getElem h2⟩
    have e0 : (gs.flatMap Got.enc)[i * 4]? = some (.int .i64 x.frm) := fm_get Got.len hx (j := 0) (by omega)
    have e1 : (gs.flatMap Got.enc)[i * 4 + 1]? = some (.int .i64 x.seq) := fm_get Got.len hx (j := 1) (by omega)
    have e2 : (gs.flatMap Got.enc)[i * 4 + 2]? = some (.bool x.gap) := fm_get Got.len hx (j := 2) (by omega)
    have e3 : (gs.flatMap Got.enc)[i * 4 + 3]? = some (.sl none x.body.length (bV x.body)) := fm_get Got.len hx (j := 3) (by omega)
    have e4 := bytesOf_bV x.body
    have e5 : (bV x.body).length = x.body.length := bV_len _
    have e6 := wrap_succ (i := i) (by unfold room at hg; omega)
    have n1 : (x.frm != x.frm) = false := by simp
    have n2 : (x.seq != x.seq) = false := by simp
    have n3 : (x.gap != x.gap) = false := by simp
    have n4 : (!(x.body == x.body)) = false := by simp
    repeat' (first | (show RR _ _ ((_, none, _) :: _) _ _ _ = _; first | refine y_mv ?_ | refine y_op ?_ | refine y_pt ?_ | refine y_pf ?_ | refine y_op0 ?_ | refine y_call ?_ | refine y_call0 ?_ | refine y_ext ?_ | fail) | (show RR _ _ ((some _, _, _) :: _) _ _ _ = _; first | refine y_fF ?_ | refine y_nF ?_ | refine y_fT ?_ | refine y_nT ?_ | refine w_ifD rfl (fun _ => ?_) (fun _ => ?_) | refine w_ifE rfl (fun _ => ?_) (fun _ => ?_) | refine w_ifN rfl (fun _ => ?_) (fun _ => ?_) | refine w_if rfl (fun _ => ?_) (fun _ => ?_) | fail) | (show RR _ _ [] _ _ _ = _; refine y_reg ?_) | (show R _ _ _ _ _ _ = _; first | refine r_seq ?_ | refine R_reg rfl ?_ | refine r_ret ?_ | refine r_nop ?_ | refine y_ct ?_ | refine y_cf ?_ | refine y_iD (fun _ => ?_) (fun _ => ?_) | refine y_iE (fun _ => ?_) (fun _ => ?_) | refine y_iN (fun _ => ?_) (fun _ => ?_) | refine y_i (fun _ => ?_) (fun _ => ?_) | refine r_blk ?_ | refine r_exit ?_ | fail) | (show RR _ _ ((none, _, _) :: _) _ _ _ = _; first | refine y_zF ?_ | refine y_nF ?_ | refine y_zT ?_ | refine y_nT ?_ | fail) | refine k_seq_nrm ?_ | refine k_seq_ret ?_ | refine k_seq_exit ?_ | refine k_blk_nrm ?_ | refine k_blk_ret ?_ | refine k_blk_hit ?_ | refine k_blk_miss (by decide) ?_ | refine k_lp_ret ?_ | refine k_lp_exit ?_ | refine y_fin ?_ | fail)
    refine y_lps ?_
    exact same_loop hg k (i + 1) (by omega) h
theorem sameGots {s : Option Nat} {H : Heap} {gs : List Got} {o1 o2 : Option Nat} (hg : gs.length ≤ room) :
    Call tab s f_ref21_SameGots [.sl o1 gs.length (gs.flatMap Got.enc), .sl o2 gs.length (gs.flatMap Got.enc)] H = some (.bool true, H) := by
  have e1 : V.rbL 0 (gs.flatMap Got.enc) = true := fm_rb (Got.rb _) _
  refine Call_P (H0 := []) (cf := c_ref21_SameGots) rfl rfl rfl rfl (by (repeat' (first | assumption | exact rb_int | exact rb_bool | exact rb_str | exact rb_nil | refine rb_sl ?_ | refine rb_cons ?_ ?_ | refine rb_agg ?_ | refine rb_app ?_ ?_ | refine rb_ptr ?_ | (simp only [V.rb]; done))); (first | done | fail)) ?_
  unfold c_ref21_SameGots
  dsimp only [initEnv, Nat.reduceAdd, Nat.zero_add]
  have n1 : ((gs.length : Int) != gs.length) = false := by simp
  repeat' (first | (show RR _ _ ((_, none, _) :: _) _ _ _ = _; first | refine y_mv ?_ | refine y_op ?_ | refine y_pt ?_ | refine y_pf ?_ | refine y_op0 ?_ | refine y_call ?_ | refine y_call0 ?_ | refine y_ext ?_ | fail) | (show RR _ _ ((some _, _, _) :: _) _ _ _ = _; first | refine y_fF ?_ | refine y_nF ?_ | refine y_fT ?_ | refine y_nT ?_ | refine w_ifD rfl (fun _ => ?_) (fun _ => ?_) | refine w_ifE rfl (fun _ => ?_) (fun _ => ?_) | refine w_ifN rfl (fun _ => ?_) (fun _ => ?_) | refine w_if rfl (fun _ => ?_) (fun _ => ?_) | fail) | (show RR _ _ [] _ _ _ = _; refine y_reg ?_) | (show R _ _ _ _ _ _ = _; first | refine r_seq ?_ | refine R_reg rfl ?_ | refine r_ret ?_ | refine r_nop ?_ | refine y_ct ?_ | refine y_cf ?_ | refine y_iD (fun _ => ?_) (fun _ => ?_) | refine y_iE (fun _ => ?_) (fun _ => ?_) | refine y_iN (fun _ => ?_) (fun _ => ?_) | refine y_i (fun _ => ?_) (fun _ => ?_) | refine r_blk ?_ | refine r_exit ?_ | fail) | (show RR _ _ ((none, _, _) :: _) _ _ _ = _; first | refine y_zF ?_ | refine y_nF ?_ | refine y_zT ?_ | refine y_nT ?_ | fail) | refine k_seq_nrm ?_ | refine k_seq_ret ?_ | refine k_seq_exit ?_ | refine k_blk_nrm ?_ | refine k_blk_ret ?_ | refine k_blk_hit ?_ | refine k_blk_miss (by decide) ?_ | refine k_lp_ret ?_ | refine k_lp_exit ?_ | refine y_fin ?_ | fail)
  refine same_loop (gs := gs) hg gs.length 0 (by omega) fun c => ?_
  repeat' (first | (show RR _ _ ((_, none, _) :: _) _ _ _ = _; first | refine y_mv ?_ | refine y_op ?_ | refine y_pt ?_ | refine y_pf ?_ | refine y_op0 ?_ | refine y_call ?_ | refine y_call0 ?_ | refine y_ext ?_ | fail) | (show RR _ _ ((some _, _, _) :: _) _ _ _ = _; first | refine y_fF ?_ | refine y_nF ?_ | refine y_fT ?_ | refine y_nT ?_ | refine w_ifD rfl (fun _ => ?_) (fun _ => ?_) | refine w_ifE rfl (fun _ => ?_) (fun _ => ?_) | refine w_ifN rfl (fun _ => ?_) (fun _ => ?_) | refine w_if rfl (fun _ => ?_) (fun _ => ?_) | fail) | (show RR _ _ [] _ _ _ = _; refine y_reg ?_) | (show R _ _ _ _ _ _ = _; first | refine r_seq ?_ | refine R_reg rfl ?_ | refine r_ret ?_ | refine r_nop ?_ | refine y_ct ?_ | refine y_cf ?_ | refine y_iD (fun _ => ?_) (fun _ => ?_) | refine y_iE (fun _ => ?_) (fun _ => ?_) | refine y_iN (fun _ => ?_) (fun _ => ?_) | refine y_i (fun _ => ?_) (fun _ => ?_) | refine r_blk ?_ | refine r_exit ?_ | fail) | (show RR _ _ ((none, _, _) :: _) _ _ _ = _; first | refine y_zF ?_ | refine y_nF ?_ | refine y_zT ?_ | refine y_nT ?_ | fail) | refine k_seq_nrm ?_ | refine k_seq_ret ?_ | refine k_seq_exit ?_ | refine k_blk_nrm ?_ | refine k_blk_ret ?_ | refine k_blk_hit ?_ | refine k_blk_miss (by decide) ?_ | refine k_lp_ret ?_ | refine k_lp_exit ?_ | refine y_fin ?_ | fail)
  rfl
end Go.Abs
